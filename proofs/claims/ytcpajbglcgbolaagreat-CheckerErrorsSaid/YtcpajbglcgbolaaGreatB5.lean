/- Texts of the proof, part 5 of 6. -/
import Derived.Test.YtcpajbglcgbolaaGreatB2
import Derived.Test.YtcpajbglcgbolaaGreatB4
import Derived.Test.YtcpajbglcgbolaaGreatB1
import Derived.Deep.Slices
import Derived.Deep.Fields
import Derived.ChangeSame
import Derived.SizedLaws
import Derived.Lib.SmallJoins
import Derived.Below
import Derived.OpenShut
import Derived.Carry
/- Models printed by my decompiler, and the proofs that the code computes them. -/
namespace Go.Proofs.YtcpajbglcgbolaaGreat.Am
open Go.RowKit
structure GCertificate where
  Bound : Int
  Nogoods : List Nogood
  deriving DecidableEq
def cGCertificate (x : GCertificate) : List AV := [.c (.int .i64 x.Bound), .sl 2 (x.Nogoods.map cN)]
theorem fr_cGCertificate (x : GCertificate) : ∀ y ∈ cGCertificate x, Fr y := FrC_cons (.c _) (FrC_cons (.sl (frl_cN _)) (FrC_nil))
theorem frl_cGCertificate (l : List GCertificate) : FrL (l.map cGCertificate) := FrL_map (fun x _ => fr_cGCertificate x)
instance {l : List GCertificate} : FrI (l.map cGCertificate) := ⟨frl_cGCertificate l⟩
structure GChecker where
  t : GTask
  c : GCertificate
  steps : Int
  deriving DecidableEq
def cGChecker (x : GChecker) : List AV := [.sl 1 (x.t.Vars.map cI), .sl 1 (x.t.Init.map cI), .sl 2 (x.t.Goal.map cF), .sl 4 (x.t.Ops.map cGOp), .c (.int .i64 x.c.Bound), .sl 2 (x.c.Nogoods.map cN), .c (.int .i64 x.steps)]
theorem fr_cGChecker (x : GChecker) : ∀ y ∈ cGChecker x, Fr y := FrC_cons (.sl (frl_cI _)) (FrC_cons (.sl (frl_cI _)) (FrC_cons (.sl (frl_cF _)) (FrC_cons (.sl (frl_cGOp _)) (FrC_cons (.c _) (FrC_cons (.sl (frl_cN _)) (FrC_cons (.c _) (FrC_nil)))))))
theorem frl_cGChecker (l : List GChecker) : FrL (l.map cGChecker) := FrL_map (fun x _ => fr_cGChecker x)
instance {l : List GChecker} : FrI (l.map cGChecker) := ⟨frl_cGChecker l⟩
theorem ci_XDChk {p K : Prop} (k : K) (h : p := by first | rfl | exact ⟨rfl, rfl⟩ | exact BW.fr FrV.h | (refine BW.fr ?_; assumption) | (refine ⟨rfl, ?_⟩; (simp [cGTask, cI, cF, cGOp, cGEffect, cGCertificate, cN, cGChecker, cL_cF, take_len_map]; done)) | (refine RowK.same ?_ FrI.h; first | rfl | (simp [cGTask, cI, cF, cGOp, cGEffect, cGCertificate, cN, cGChecker, cL_cF, take_len_map]; done)) | (refine row_part1 ?_; (repeat (first | exact BWL.nil | exact bwll_nil | exact bw_c | exact BW.sl | exact BW.nil | exact bwll_same rfl FrI.h | refine BWL.cons ?_ ?_ | refine bwll_cons ?_ ?_ | (refine bw_own3 rfl rfl rfl FrI.h ?_ ?_ ?_) | exact BW.fr FrV.h | exact BW.fr (by assumption) | refine bw_agg ?_ | refine bw_clo ?_ | refine bw_ptr rfl rfl rfl ?_ | (refine bw_own rfl rfl rfl ?_ FrI.h ?_ ?_) | assumption | omega | rfl | (rw [List.length_map, ← List.length_append]; assumption) | (refine bwll_same ?_ FrI.h; (simp [cGTask, cI, cF, cGOp, cGEffect, cGCertificate, cN, cGChecker, cL_cF] <;> fail)) | (rw [List.map_set]; refine bwll_set (by first | rfl | omega | simp) ?_ ?_) | refine bwll_set (by first | rfl | omega | simp) ?_ ?_ | (rw [List.map_replicate]; refine bwll_rep ?_) | refine bwll_rep ?_ | (rw [List.map_append]; refine bwll_append ?_ ?_) | refine bwll_append ?_ ?_ | (simp [cGTask, cI, cF, cGOp, cGEffect, cGCertificate, cN, cGChecker, cL_cF, take_len_map] <;> fail) | (rw [List.drop_zero, List.take_of_length_le] <;> first | rfl | (simp [cGTask, cI, cF, cGOp, cGEffect, cGCertificate, cN, cGChecker, cL_cF] <;> fail)) | (simp; omega))); done) | ((repeat (first | exact BWL.nil | exact bwll_nil | exact bw_c | exact BW.sl | exact BW.nil | exact bwll_same rfl FrI.h | refine BWL.cons ?_ ?_ | refine bwll_cons ?_ ?_ | (refine bw_own3 rfl rfl rfl FrI.h ?_ ?_ ?_) | exact BW.fr FrV.h | exact BW.fr (by assumption) | refine bw_agg ?_ | refine bw_clo ?_ | refine bw_ptr rfl rfl rfl ?_ | (refine bw_own rfl rfl rfl ?_ FrI.h ?_ ?_) | assumption | omega | rfl | (rw [List.length_map, ← List.length_append]; assumption) | (refine bwll_same ?_ FrI.h; (simp [cGTask, cI, cF, cGOp, cGEffect, cGCertificate, cN, cGChecker, cL_cF] <;> fail)) | (rw [List.map_set]; refine bwll_set (by first | rfl | omega | simp) ?_ ?_) | refine bwll_set (by first | rfl | omega | simp) ?_ ?_ | (rw [List.map_replicate]; refine bwll_rep ?_) | refine bwll_rep ?_ | (rw [List.map_append]; refine bwll_append ?_ ?_) | refine bwll_append ?_ ?_ | (simp [cGTask, cI, cF, cGOp, cGEffect, cGCertificate, cN, cGChecker, cL_cF, take_len_map] <;> fail) | (rw [List.drop_zero, List.take_of_length_le] <;> first | rfl | (simp [cGTask, cI, cF, cGOp, cGEffect, cGCertificate, cN, cGChecker, cL_cF] <;> fail)) | (simp; omega))); done) | (simp [cGTask, cI, cF, cGOp, cGEffect, cGCertificate, cN, cGChecker, cL_cF, take_len_map]; done)) : p ∧ K := ⟨h, k⟩
theorem pr_XDChk {p K : Prop} (k : K) (h : p := by first | assumption | exact Int.natCast_nonneg _ | exact Nat.le_refl _ | exact Nat.zero_le _ | omega | (simp; done) | (simp; omega)) : p ∧ K := ⟨h, k⟩
theorem pl_XDChk {p K : Prop} (k : K) (h : p := by first | rfl | exact List.length_map _ | (simp; done) | (simp; omega)) : p ∧ K := ⟨h, k⟩
theorem pe_XDChk {p K : Prop} (k : K) (h : p := by first | omega | (simp; omega) | (simp only [List.length_map, List.length_cons, List.length_nil, List.length_append]; omega)) : p ∧ K := ⟨h, k⟩
theorem dr_XDChk {b : Bool} {p K : Prop} (k : K) (h : b = true → p := by intro h; first | (cases h; done) | exact ⟨by kernel_rfl, by kernel_rfl⟩) : (b = true → p) ∧ K := ⟨h, k⟩
theorem cl_XDChk {C : Cx} {n : Nat} {o : Oper} {τ : Nat → AV} {η : Nat → Ent} {f : FuncId} {os : Array Operand} {ats : Array TypeId} {r : AV} {args : List AV} {K : Foot → Prop} (ho : o.op = .call ⟨.value (.func f), os, ats⟩) (hc : ACall C f args r) (k : K ⟨r, [], []⟩)
    (hd : InB n o.dst := by exact Nat.le_of_ble_eq_true rfl) (hargs : os.toList.map (evA τ) = args := by first | rfl | (simp [cGTask, cI, cF, cGOp, cGEffect, cGCertificate, cN, cGChecker, cL_cF]; done)) (hfr : frs args := by repeat (first | exact trivial | exact fr1_eA _ | exact fr0_eA _ | exact fr1_fr (by assumption) | exact FrV.h | refine And.intro ?_ ?_)) (hr : fr1 r := by repeat (first | exact trivial | exact fr1_eA _ | exact fr0_eA _ | exact fr1_fr (by assumption) | exact FrV.h | refine And.intro ?_ ?_)) : ∃ f : Foot, LF C n o τ η f ∧ K f := ⟨_, lf_call ho hd hargs hc hfr hr, k⟩
theorem clb_XDChk {C : Cx} {n : Nat} {o : Oper} {τ : Nat → AV} {η : Nat → Ent} {f : FuncId} {os : Array Operand} {ats : Array TypeId} {r : AV} {xs ys : List AV} {K : Foot → Prop} (bs : List Nat) (ho : o.op = .call ⟨.value (.func f), os, ats⟩) (hargs : os.toList.map (evA τ) = xs) (hc : ACall C f ys r) (k : K ⟨r, [], bs⟩)
    (hd : InB n o.dst := by exact Nat.le_of_ble_eq_true rfl) (hb : BWL η (dropB η bs) xs ys := by repeat (first | exact BWL.nil | exact bwll_nil | exact bw_c | exact BW.sl | exact BW.nil | exact bwll_same rfl FrI.h | refine BWL.cons ?_ ?_ | refine bwll_cons ?_ ?_ | (refine bw_own3 rfl rfl rfl FrI.h ?_ ?_ ?_) | exact BW.fr FrV.h | exact BW.fr (by assumption) | refine bw_agg ?_ | refine bw_clo ?_ | refine bw_ptr rfl rfl rfl ?_ | (refine bw_own rfl rfl rfl ?_ FrI.h ?_ ?_) | assumption | omega | rfl | (rw [List.length_map, ← List.length_append]; assumption) | (refine bwll_same ?_ FrI.h; (simp [cGTask, cI, cF, cGOp, cGEffect, cGCertificate, cN, cGChecker, cL_cF] <;> fail)) | (rw [List.map_set]; refine bwll_set (by first | rfl | omega | simp) ?_ ?_) | refine bwll_set (by first | rfl | omega | simp) ?_ ?_ | (rw [List.map_replicate]; refine bwll_rep ?_) | refine bwll_rep ?_ | (rw [List.map_append]; refine bwll_append ?_ ?_) | refine bwll_append ?_ ?_ | (simp [cGTask, cI, cF, cGOp, cGEffect, cGCertificate, cN, cGChecker, cL_cF, take_len_map] <;> fail) | (rw [List.drop_zero, List.take_of_length_le] <;> first | rfl | (simp [cGTask, cI, cF, cGOp, cGEffect, cGCertificate, cN, cGChecker, cL_cF] <;> fail)) | (simp; omega))) (hr : scal r := by repeat (first | exact trivial | exact scal0_eA _ | exact scal_eA _ | refine And.intro ?_ ?_)) : ∃ f : Foot, LF C n o τ η f ∧ K f := ⟨_, lf_callB bs ho hd hargs hb hc hr, k⟩
theorem clg_XDChk {C : Cx} {n : Nat} {o : Oper} {τ : Nat → AV} {η : Nat → Ent} {f : FuncId} {os : Array Operand} {ats : Array TypeId} {r : AV} {xs ys : List AV} {bs bs' : List (Nat × Blk)} {ks : List Nat} {K : Foot → Prop} (ρ : List (Nat × Nat)) (fz : List Nat) (go nb : List (Nat × Ent)) (r' : AV) (ho : o.op = .call ⟨.value (.func f), os, ats⟩) (hargs : os.toList.map (evA τ) = xs)
    (hc : ACallG C f ys bs ks r bs') (k : K ⟨r', go ++ nb, []⟩) (hd : InB n o.dst := by exact Nat.le_of_ble_eq_true rfl) (hok : okC ρ fz bs ks bs' (idsE go) = true := by rfl) (hgo : allUs η go := by repeat (first | exact trivial | refine And.intro rfl ?_)) (hgl : ltUs n go := by repeat (first | exact trivial | refine And.intro (Nat.le_of_ble_eq_true rfl) ?_))
    (hw : GWL η (fE bs) (lk ρ) (fun i => inB fz i = true) (fun i => inB (keys bs) i = true) xs ys := by repeat (first | exact True.intro | exact gb_nil rfl rfl | refine gb_some ⟨rfl, rfl, rfl⟩ ?_ | refine And.intro ?_ ?_ | refine gw_ren rfl rfl rfl rfl rfl ?_ | refine gw_pren rfl rfl rfl rfl rfl | exact gw_thaw rfl rfl rfl | refine gw_tup ?_ | exact GWL.nil | exact gwll_nil | exact gw_c | exact GW.sl | exact GW.nil | exact gwll_same rfl FrI.h | refine GWL.cons ?_ ?_ | refine gwll_cons ?_ ?_ | (refine gw_own3 rfl rfl rfl FrI.h ?_ ?_ ?_) | exact GW.fr FrV.h | exact GW.fr (by assumption) | refine gw_agg ?_ | refine gw_clo ?_ | refine gw_ptr rfl rfl rfl ?_ | (refine gw_own rfl rfl rfl ?_ FrI.h ?_ ?_) | assumption | omega | rfl | (rw [List.length_map, ← List.length_append]; assumption) | (refine gwll_same ?_ FrI.h; (simp [cGTask, cI, cF, cGOp, cGEffect, cGCertificate, cN, cGChecker, cL_cF] <;> fail)) | (rw [List.map_set]; refine gwll_set (by first | rfl | omega | simp) ?_ ?_) | refine gwll_set (by first | rfl | omega | simp) ?_ ?_ | (rw [List.map_replicate]; refine gwll_rep ?_) | refine gwll_rep ?_ | (rw [List.map_append]; refine gwll_append ?_ ?_) | refine gwll_append ?_ ?_ | (simp [cGTask, cI, cF, cGOp, cGEffect, cGCertificate, cN, cGChecker, cL_cF, take_len_map] <;> fail) | (rw [List.drop_zero, List.take_of_length_le] <;> first | rfl | (simp [cGTask, cI, cF, cGOp, cGEffect, cGCertificate, cN, cGChecker, cL_cF] <;> fail)) | (simp; omega))) (hb : GBL η (fE bs) (lk ρ) (fun i => inB fz i = true) (fun i => inB (keys bs) i = true) bs := by repeat (first | exact True.intro | exact gb_nil rfl rfl | refine gb_some ⟨rfl, rfl, rfl⟩ ?_ | refine And.intro ?_ ?_ | refine gw_ren rfl rfl rfl rfl rfl ?_ | refine gw_pren rfl rfl rfl rfl rfl | exact gw_thaw rfl rfl rfl | refine gw_tup ?_ | exact GWL.nil | exact gwll_nil | exact gw_c | exact GW.sl | exact GW.nil | exact gwll_same rfl FrI.h | refine GWL.cons ?_ ?_ | refine gwll_cons ?_ ?_ | (refine gw_own3 rfl rfl rfl FrI.h ?_ ?_ ?_) | exact GW.fr FrV.h | exact GW.fr (by assumption) | refine gw_agg ?_ | refine gw_clo ?_ | refine gw_ptr rfl rfl rfl ?_ | (refine gw_own rfl rfl rfl ?_ FrI.h ?_ ?_) | assumption | omega | rfl | (rw [List.length_map, ← List.length_append]; assumption) | (refine gwll_same ?_ FrI.h; (simp [cGTask, cI, cF, cGOp, cGEffect, cGCertificate, cN, cGChecker, cL_cF] <;> fail)) | (rw [List.map_set]; refine gwll_set (by first | rfl | omega | simp) ?_ ?_) | refine gwll_set (by first | rfl | omega | simp) ?_ ?_ | (rw [List.map_replicate]; refine gwll_rep ?_) | refine gwll_rep ?_ | (rw [List.map_append]; refine gwll_append ?_ ?_) | refine gwll_append ?_ ?_ | (simp [cGTask, cI, cF, cGOp, cGEffect, cGCertificate, cN, cGChecker, cL_cF, take_len_map] <;> fail) | (rw [List.drop_zero, List.take_of_length_le] <;> first | rfl | (simp [cGTask, cI, cF, cGOp, cGEffect, cGCertificate, cN, cGChecker, cL_cF] <;> fail)) | (simp; omega)))
    (hr : GW (fE bs') (updAll η (go ++ nb)) (lk (backN ρ bs')) (fun _ => False) (fun i => inB (idsE nb) i = true) r r' := by repeat (first | exact True.intro | exact gb_nil rfl rfl | refine gb_some ⟨rfl, rfl, rfl⟩ ?_ | refine And.intro ?_ ?_ | refine gw_ren rfl rfl rfl rfl rfl ?_ | refine gw_pren rfl rfl rfl rfl rfl | exact gw_thaw rfl rfl rfl | refine gw_tup ?_ | exact GWL.nil | exact gwll_nil | exact gw_c | exact GW.sl | exact GW.nil | exact gwll_same rfl FrI.h | refine GWL.cons ?_ ?_ | refine gwll_cons ?_ ?_ | (refine gw_own3 rfl rfl rfl FrI.h ?_ ?_ ?_) | exact GW.fr FrV.h | exact GW.fr (by assumption) | refine gw_agg ?_ | refine gw_clo ?_ | refine gw_ptr rfl rfl rfl ?_ | (refine gw_own rfl rfl rfl ?_ FrI.h ?_ ?_) | assumption | omega | rfl | (rw [List.length_map, ← List.length_append]; assumption) | (refine gwll_same ?_ FrI.h; (simp [cGTask, cI, cF, cGOp, cGEffect, cGCertificate, cN, cGChecker, cL_cF] <;> fail)) | (rw [List.map_set]; refine gwll_set (by first | rfl | omega | simp) ?_ ?_) | refine gwll_set (by first | rfl | omega | simp) ?_ ?_ | (rw [List.map_replicate]; refine gwll_rep ?_) | refine gwll_rep ?_ | (rw [List.map_append]; refine gwll_append ?_ ?_) | refine gwll_append ?_ ?_ | (simp [cGTask, cI, cF, cGOp, cGEffect, cGCertificate, cN, cGChecker, cL_cF, take_len_map] <;> fail) | (rw [List.drop_zero, List.take_of_length_le] <;> first | rfl | (simp [cGTask, cI, cF, cGOp, cGEffect, cGCertificate, cN, cGChecker, cL_cF] <;> fail)) | (simp; omega)))
    (hnb : nbOk n η (updAll η (go ++ nb)) ρ ks (fE bs') (lk (backN ρ bs')) (fun i => inB (idsE nb) i = true) bs' nb := by repeat (first | exact True.intro | rfl | exact Nat.le_of_ble_eq_true rfl | exact gb_nil rfl rfl | refine gb_some ⟨rfl, rfl, rfl⟩ ?_ | refine And.intro ?_ ?_ | refine gw_ren rfl rfl rfl rfl rfl ?_ | refine gw_pren rfl rfl rfl rfl rfl | exact gw_thaw rfl rfl rfl | refine gw_tup ?_ | exact GWL.nil | exact gwll_nil | exact gw_c | exact GW.sl | exact GW.nil | exact gwll_same rfl FrI.h | refine GWL.cons ?_ ?_ | refine gwll_cons ?_ ?_ | (refine gw_own3 rfl rfl rfl FrI.h ?_ ?_ ?_) | exact GW.fr FrV.h | exact GW.fr (by assumption) | refine gw_agg ?_ | refine gw_clo ?_ | refine gw_ptr rfl rfl rfl ?_ | (refine gw_own rfl rfl rfl ?_ FrI.h ?_ ?_) | assumption | omega | rfl | (rw [List.length_map, ← List.length_append]; assumption) | (refine gwll_same ?_ FrI.h; (simp [cGTask, cI, cF, cGOp, cGEffect, cGCertificate, cN, cGChecker, cL_cF] <;> fail)) | (rw [List.map_set]; refine gwll_set (by first | rfl | omega | simp) ?_ ?_) | refine gwll_set (by first | rfl | omega | simp) ?_ ?_ | (rw [List.map_replicate]; refine gwll_rep ?_) | refine gwll_rep ?_ | (rw [List.map_append]; refine gwll_append ?_ ?_) | refine gwll_append ?_ ?_ | (simp [cGTask, cI, cF, cGOp, cGEffect, cGCertificate, cN, cGChecker, cL_cF, take_len_map] <;> fail) | (rw [List.drop_zero, List.take_of_length_le] <;> first | rfl | (simp [cGTask, cI, cF, cGOp, cGEffect, cGCertificate, cN, cGChecker, cL_cF] <;> fail)) | (simp; omega))) : ∃ f : Foot, LF C n o τ η f ∧ K f := ⟨_, lf_callG ρ fz go nb ho hd hargs hc hok hgo hgl hw hb hr hnb, k⟩
theorem clk_XDChk {C : Cx} {n : Nat} {o : Oper} {τ : Nat → AV} {η : Nat → Ent} {f : FuncId} {os : Array Operand} {ats : Array TypeId} {r : AV} {xs ys : List AV} {bs bs' : List (Nat × Blk)} {ks : List Nat} {K : Foot → Prop} (ρ : List (Nat × Nat)) (nb : List (Nat × Ent)) (r' : AV) (ho : o.op = .call ⟨.value (.func f), os, ats⟩) (hargs : os.toList.map (evA τ) = xs)
    (hc : ACallG C f ys bs ks r bs') (k : K ⟨r', [], nb.map (·.1)⟩) (hd : InB n o.dst := by exact Nat.le_of_ble_eq_true rfl) (hok : okC ρ [] bs ks bs' (idsE []) = true := by rfl)
    (hw : GWL η (fE bs) (lk ρ) (fun i => inB [] i = true) (fun i => inB (keys bs) i = true) xs ys := by repeat (first | exact True.intro | exact gb_nil rfl rfl | refine gb_some ⟨rfl, rfl, rfl⟩ ?_ | refine And.intro ?_ ?_ | refine gw_ren rfl rfl rfl rfl rfl ?_ | refine gw_pren rfl rfl rfl rfl rfl | exact gw_thaw rfl rfl rfl | refine gw_tup ?_ | exact GWL.nil | exact gwll_nil | exact gw_c | exact GW.sl | exact GW.nil | exact gwll_same rfl FrI.h | refine GWL.cons ?_ ?_ | refine gwll_cons ?_ ?_ | (refine gw_own3 rfl rfl rfl FrI.h ?_ ?_ ?_) | exact GW.fr FrV.h | exact GW.fr (by assumption) | refine gw_agg ?_ | refine gw_clo ?_ | refine gw_ptr rfl rfl rfl ?_ | (refine gw_own rfl rfl rfl ?_ FrI.h ?_ ?_) | assumption | omega | rfl | (rw [List.length_map, ← List.length_append]; assumption) | (refine gwll_same ?_ FrI.h; (simp [cGTask, cI, cF, cGOp, cGEffect, cGCertificate, cN, cGChecker, cL_cF] <;> fail)) | (rw [List.map_set]; refine gwll_set (by first | rfl | omega | simp) ?_ ?_) | refine gwll_set (by first | rfl | omega | simp) ?_ ?_ | (rw [List.map_replicate]; refine gwll_rep ?_) | refine gwll_rep ?_ | (rw [List.map_append]; refine gwll_append ?_ ?_) | refine gwll_append ?_ ?_ | (simp [cGTask, cI, cF, cGOp, cGEffect, cGCertificate, cN, cGChecker, cL_cF, take_len_map] <;> fail) | (rw [List.drop_zero, List.take_of_length_le] <;> first | rfl | (simp [cGTask, cI, cF, cGOp, cGEffect, cGCertificate, cN, cGChecker, cL_cF] <;> fail)) | (simp; omega))) (hb : GBL η (fE bs) (lk ρ) (fun i => inB [] i = true) (fun i => inB (keys bs) i = true) bs := by repeat (first | exact True.intro | exact gb_nil rfl rfl | refine gb_some ⟨rfl, rfl, rfl⟩ ?_ | refine And.intro ?_ ?_ | refine gw_ren rfl rfl rfl rfl rfl ?_ | refine gw_pren rfl rfl rfl rfl rfl | exact gw_thaw rfl rfl rfl | refine gw_tup ?_ | exact GWL.nil | exact gwll_nil | exact gw_c | exact GW.sl | exact GW.nil | exact gwll_same rfl FrI.h | refine GWL.cons ?_ ?_ | refine gwll_cons ?_ ?_ | (refine gw_own3 rfl rfl rfl FrI.h ?_ ?_ ?_) | exact GW.fr FrV.h | exact GW.fr (by assumption) | refine gw_agg ?_ | refine gw_clo ?_ | refine gw_ptr rfl rfl rfl ?_ | (refine gw_own rfl rfl rfl ?_ FrI.h ?_ ?_) | assumption | omega | rfl | (rw [List.length_map, ← List.length_append]; assumption) | (refine gwll_same ?_ FrI.h; (simp [cGTask, cI, cF, cGOp, cGEffect, cGCertificate, cN, cGChecker, cL_cF] <;> fail)) | (rw [List.map_set]; refine gwll_set (by first | rfl | omega | simp) ?_ ?_) | refine gwll_set (by first | rfl | omega | simp) ?_ ?_ | (rw [List.map_replicate]; refine gwll_rep ?_) | refine gwll_rep ?_ | (rw [List.map_append]; refine gwll_append ?_ ?_) | refine gwll_append ?_ ?_ | (simp [cGTask, cI, cF, cGOp, cGEffect, cGCertificate, cN, cGChecker, cL_cF, take_len_map] <;> fail) | (rw [List.drop_zero, List.take_of_length_le] <;> first | rfl | (simp [cGTask, cI, cF, cGOp, cGEffect, cGCertificate, cN, cGChecker, cL_cF] <;> fail)) | (simp; omega)))
    (hr : GW (fE bs') (updAll η ([] ++ nb)) (lk (backN ρ bs')) (fun _ => False) (fun i => inB (idsE nb) i = true) r r' := by repeat (first | exact True.intro | exact gb_nil rfl rfl | refine gb_some ⟨rfl, rfl, rfl⟩ ?_ | refine And.intro ?_ ?_ | refine gw_ren rfl rfl rfl rfl rfl ?_ | refine gw_pren rfl rfl rfl rfl rfl | exact gw_thaw rfl rfl rfl | refine gw_tup ?_ | exact GWL.nil | exact gwll_nil | exact gw_c | exact GW.sl | exact GW.nil | exact gwll_same rfl FrI.h | refine GWL.cons ?_ ?_ | refine gwll_cons ?_ ?_ | (refine gw_own3 rfl rfl rfl FrI.h ?_ ?_ ?_) | exact GW.fr FrV.h | exact GW.fr (by assumption) | refine gw_agg ?_ | refine gw_clo ?_ | refine gw_ptr rfl rfl rfl ?_ | (refine gw_own rfl rfl rfl ?_ FrI.h ?_ ?_) | assumption | omega | rfl | (rw [List.length_map, ← List.length_append]; assumption) | (refine gwll_same ?_ FrI.h; (simp [cGTask, cI, cF, cGOp, cGEffect, cGCertificate, cN, cGChecker, cL_cF] <;> fail)) | (rw [List.map_set]; refine gwll_set (by first | rfl | omega | simp) ?_ ?_) | refine gwll_set (by first | rfl | omega | simp) ?_ ?_ | (rw [List.map_replicate]; refine gwll_rep ?_) | refine gwll_rep ?_ | (rw [List.map_append]; refine gwll_append ?_ ?_) | refine gwll_append ?_ ?_ | (simp [cGTask, cI, cF, cGOp, cGEffect, cGCertificate, cN, cGChecker, cL_cF, take_len_map] <;> fail) | (rw [List.drop_zero, List.take_of_length_le] <;> first | rfl | (simp [cGTask, cI, cF, cGOp, cGEffect, cGCertificate, cN, cGChecker, cL_cF] <;> fail)) | (simp; omega)))
    (hnb : nbOk n η (updAll η ([] ++ nb)) ρ ks (fE bs') (lk (backN ρ bs')) (fun i => inB (idsE nb) i = true) bs' nb := by repeat (first | exact True.intro | rfl | exact Nat.le_of_ble_eq_true rfl | exact gb_nil rfl rfl | refine gb_some ⟨rfl, rfl, rfl⟩ ?_ | refine And.intro ?_ ?_ | refine gw_ren rfl rfl rfl rfl rfl ?_ | refine gw_pren rfl rfl rfl rfl rfl | exact gw_thaw rfl rfl rfl | refine gw_tup ?_ | exact GWL.nil | exact gwll_nil | exact gw_c | exact GW.sl | exact GW.nil | exact gwll_same rfl FrI.h | refine GWL.cons ?_ ?_ | refine gwll_cons ?_ ?_ | (refine gw_own3 rfl rfl rfl FrI.h ?_ ?_ ?_) | exact GW.fr FrV.h | exact GW.fr (by assumption) | refine gw_agg ?_ | refine gw_clo ?_ | refine gw_ptr rfl rfl rfl ?_ | (refine gw_own rfl rfl rfl ?_ FrI.h ?_ ?_) | assumption | omega | rfl | (rw [List.length_map, ← List.length_append]; assumption) | (refine gwll_same ?_ FrI.h; (simp [cGTask, cI, cF, cGOp, cGEffect, cGCertificate, cN, cGChecker, cL_cF] <;> fail)) | (rw [List.map_set]; refine gwll_set (by first | rfl | omega | simp) ?_ ?_) | refine gwll_set (by first | rfl | omega | simp) ?_ ?_ | (rw [List.map_replicate]; refine gwll_rep ?_) | refine gwll_rep ?_ | (rw [List.map_append]; refine gwll_append ?_ ?_) | refine gwll_append ?_ ?_ | (simp [cGTask, cI, cF, cGOp, cGEffect, cGCertificate, cN, cGChecker, cL_cF, take_len_map] <;> fail) | (rw [List.drop_zero, List.take_of_length_le] <;> first | rfl | (simp [cGTask, cI, cF, cGOp, cGEffect, cGCertificate, cN, cGChecker, cL_cF] <;> fail)) | (simp; omega))) (hs : sameUs η nb := by repeat (first | exact True.intro | refine And.intro rfl ?_)) : ∃ f : Foot, LF C n o τ η f ∧ K f := ⟨_, lf_callK (lf_callG ρ [] [] nb ho hd hargs hc hok True.intro True.intro hw hb hr hnb) hs, k⟩
def M_certificate_formed_L1 (a0 : List Fact) : Nat → Int → Option (Bool)
  | 0, _ => none
  | k6 + 1, v5 =>
    sel (decide (v5 < ((a0.map cF).length : Int)))
     (ix a0 v5 (fun y7 =>
       sel (decide (y7.1 < 0))
        (some false)
        (sel (decide (y7.1 ≥ 64))
          (some false)
          (sel (decide (y7.2 < 0))
            (some false)
            (sel (decide (y7.2 ≥ 64))
              (some false)
              (sel (decide (v5 > 0))
                (ix a0 (IntKind.i64.wrap (v5 - 1)) (fun y8 =>
                  sel (decide (y8.1 ≥ y7.1))
                   (some false)
                   (M_certificate_formed_L1 a0 k6 (IntKind.i64.wrap (v5 + 1)))))
                (M_certificate_formed_L1 a0 k6 (IntKind.i64.wrap (v5 + 1)))))))))
     (some true)
def M_certificate_formed (a0 : List Fact) : Option (Bool) :=
  M_certificate_formed_L1 a0 ((((a0.map cF).length : Int)).toNat + 1) 0
set_option maxHeartbeats 16000000 in
set_option maxRecDepth 100000 in
theorem A_certificate_formed (a0 : List Fact) {r1 : Bool} (h : M_certificate_formed a0 = some r1) : ACall cx 47 [.sl 2 (a0.map cF)] (.c (.bool r1)) := by
  refine acall_of Tryz.func47 rfl (by decide) rfl (Nat.le_of_ble_eq_true rfl) ?_; intro _; unfold M_certificate_formed at h; refine awp_seq ?_; refine awp_region ?_; intro _; refine dr_XDChk ?_; refine awp_seq ?_; refine awp_seq ?_; refine awp_region ?_; intro _; refine dr_XDChk ?_; refine awp_block ?_; refine awp_loop (α := Nat × Int) (fun x => mkS 46 [(0, .sl 2 (a0.map cF)), (5, .sl 2 (a0.map cF)), (6, .c (.int .i64 ((a0.map cF).length : Int))), (7, .c (.int .i64 x.2))] []) (fun x => M_certificate_formed_L1 a0 x.1 x.2 = some r1) (fun x => x.1) ((((a0.map cF).length : Int)).toNat + 1, 0) h ?_ ?_
  · repeat (first | exact True.intro | refine ci_XDChk ?_)
  · intro x1 h; intro _; obtain ⟨k6, m2, h⟩ := succ_of (f := fun n => M_certificate_formed_L1 a0 n x1.2) rfl h; replace h : M_certificate_formed_L1 a0 (k6 + 1) x1.2 = some r1 := h; rw [M_certificate_formed_L1] at h; refine awp_seq ?_; refine awp_region ?_; intro _; refine dr_XDChk ?_; refine awp_seq ?_; refine awp_cond ?_; intro _; refine spl h (fun c3 h => ?_) (fun c3 h => ?_)
    · refine awp_skip ?_; refine awp_seq ?_; refine awp_block ?_; refine awp_seq ?_; refine awp_region ?_; intro _; obtain ⟨y7, w4, q5, h⟩ := ix_ok h; refine Exists.intro (cF y7) (And.intro (map_at' w4) ?_); intro _; refine pr_XDChk ?_; refine dr_XDChk ?_; refine awp_seq ?_; refine awp_region ?_; intro _; refine spf h (fun c6 h => ?_) (fun c6 h => ?_)
      · intro _; refine spf h (fun c7 h => ?_) (fun c7 h => ?_)
        · intro _; refine spf h (fun c8 h => ?_) (fun c8 h => ?_)
          · intro _; refine spf h (fun c9 h => ?_) (fun c9 h => ?_)
            · intro _; refine spl h (fun c10 h => ?_) (fun c10 h => ?_)
              · intro _; obtain ⟨y8, w11, q12, h⟩ := ix_ok h; refine Exists.intro (cF y8) (And.intro (map_at' w11) ?_); intro _; refine pr_XDChk ?_; refine dr_XDChk ?_; refine awp_cond ?_; intro _; refine spl h (fun c13 h => ?_) (fun c13 h => ?_)
                · refine awp_seq ?_; refine awp_region ?_; intro _; refine dr_XDChk ?_; refine awp_ret ?_; intro _; obtain rfl := inj1 h; repeat (first | exact True.intro | refine ci_XDChk ?_)
                · refine awp_skip ?_; refine awp_region ?_; intro _; refine dr_XDChk ?_; refine ⟨(k6, (IntKind.i64.wrap (x1.2 + 1))), h, lt_of_succ m2, ?_⟩; repeat (first | exact True.intro | refine ci_XDChk ?_)
              · intro _; refine dr_XDChk ?_; refine awp_cond ?_; intro _; refine litF ?_; refine awp_skip ?_; refine awp_region ?_; intro _; refine dr_XDChk ?_; refine ⟨(k6, (IntKind.i64.wrap (x1.2 + 1))), h, lt_of_succ m2, ?_⟩; repeat (first | exact True.intro | refine ci_XDChk ?_)
            · intro _; refine dr_XDChk ?_; refine awp_cond ?_; intro _; refine litT ?_; refine awp_seq ?_; refine awp_region ?_; intro _; refine dr_XDChk ?_; refine awp_ret ?_; intro _; obtain rfl := inj1 h; repeat (first | exact True.intro | refine ci_XDChk ?_)
          · intro _; refine dr_XDChk ?_; refine awp_cond ?_; intro _; refine litT ?_; refine awp_seq ?_; refine awp_region ?_; intro _; refine dr_XDChk ?_; refine awp_ret ?_; intro _; obtain rfl := inj1 h; repeat (first | exact True.intro | refine ci_XDChk ?_)
        · intro _; refine dr_XDChk ?_; refine awp_cond ?_; intro _; refine litT ?_; refine awp_seq ?_; refine awp_region ?_; intro _; refine dr_XDChk ?_; refine awp_ret ?_; intro _; obtain rfl := inj1 h; repeat (first | exact True.intro | refine ci_XDChk ?_)
      · intro _; refine dr_XDChk ?_; refine awp_cond ?_; intro _; refine litT ?_; refine awp_seq ?_; refine awp_region ?_; intro _; refine dr_XDChk ?_; refine awp_ret ?_; intro _; obtain rfl := inj1 h; repeat (first | exact True.intro | refine ci_XDChk ?_)
    · refine awp_exit ?_; refine awp_seq ?_; refine awp_region ?_; intro _; refine dr_XDChk ?_; refine awp_ret ?_; intro _; obtain rfl := inj1 h; repeat (first | exact True.intro | refine ci_XDChk ?_)
def M_certificate_Check_L1 (a0 : GCertificate) : Nat → Int → Option (Unit ⊕ Er)
  | 0, _ => none
  | k20 + 1, v19 =>
    sel (decide (v19 < ((a0.Nogoods.map cN).length : Int)))
     (ix a0.Nogoods v19 (fun y21 =>
       ob1 (M_certificate_formed y21.1) (fun z22 =>
        sel (!z22)
         (some (.inr (Er.no 2)))
         (M_certificate_Check_L1 a0 k20 (IntKind.i64.wrap (v19 + 1))))))
     (some (.inl ()))
def M_certificate_Check_L2 (a0 : GCertificate) : Nat → Int → Option (Er)
  | 0, _ => none
  | k27 + 1, v26 =>
    sel (decide (v26 < ((a0.Nogoods.map cN).length : Int)))
     (ix a0.Nogoods v26 (fun y28 =>
       sel (decide (y28.2 < 0))
        (some (Er.no 1))
        (sel (decide (a0.Bound ≥ 0))
          (sel (decide (y28.2 ≥ a0.Bound))
            (some (Er.no 1))
            (sel (decide (a0.Bound < 0))
              (sel (y28.2 != 0)
                (some (Er.no 1))
                (M_certificate_Check_L2 a0 k27 (IntKind.i64.wrap (v26 + 1))))
              (M_certificate_Check_L2 a0 k27 (IntKind.i64.wrap (v26 + 1)))))
          (sel (decide (a0.Bound < 0))
            (sel (y28.2 != 0)
              (some (Er.no 1))
              (M_certificate_Check_L2 a0 k27 (IntKind.i64.wrap (v26 + 1))))
            (M_certificate_Check_L2 a0 k27 (IntKind.i64.wrap (v26 + 1)))))))
     (some Er.nil)
def M_certificate_Check (a0 : GCertificate) : Option (Er) :=
  ob1 (sel (decide (a0.Bound < (-1)))
    (some (.inr (Er.no 1)))
    (sel (decide (a0.Bound > 1099511627776))
      (some (.inr (Er.no 1)))
      (some (.inl ()))) : Option (Unit ⊕ Er))
   (osum
   (fun _ => sel (decide (((a0.Nogoods.map cN).length : Int) > 4096))
      (some (Er.no 5))
      (ob1 (M_certificate_Check_L1 a0 ((((a0.Nogoods.map cN).length : Int)).toNat + 1) 0 : Option (Unit ⊕ Er))
        (osum
        (fun _ => M_certificate_Check_L2 a0 ((((a0.Nogoods.map cN).length : Int)).toNat + 1) 0)
        (fun r12 => some r12))))
   (fun r1 => some r1))
set_option maxHeartbeats 16000000 in
set_option maxRecDepth 100000 in
theorem A_certificate_Check (a0 : GCertificate) {r1 : Er} (h : M_certificate_Check a0 = some r1) : ACall cx 26 [.agg [.c (.int .i64 a0.Bound), .sl 2 (a0.Nogoods.map cN)]] (eA r1) := by
  refine acall_of Tryz.func26 rfl (by decide) rfl (Nat.le_of_ble_eq_true rfl) ?_; intro _; unfold M_certificate_Check at h; refine awp_seq ?_; refine awp_region ?_; intro _; refine dr_XDChk ?_; obtain ⟨o1, h, hK2⟩ := ob1_ok h; refine awp_cut (α := Unit) (fun _ => mkS 68 [(1, .ptr 1 0 0 0)] [(1, ⟨29, 2, true, [[.c (.int .i64 a0.Bound), .sl 2 (a0.Nogoods.map cN)]]⟩)]) (fun v => o1 = (.inl v)) ?_ ?_
  · refine awp_seq ?_; refine awp_region ?_; intro _; refine spf h (fun c3 h => ?_) (fun c3 h => ?_)
    · intro _; refine dr_XDChk ?_; refine awp_cond ?_; intro _; refine spl h (fun c4 h => ?_) (fun c4 h => ?_)
      · refine awp_seq ?_; refine awp_region ?_; intro _; refine dr_XDChk ?_; refine awp_ret ?_; have j5 := Option.some.inj h; subst j5; replace h := (osum_r hK2); intro _; obtain rfl := inj1 h; repeat (first | exact True.intro | refine ci_XDChk ?_)
      · refine awp_skip ?_; refine ⟨(), (Option.some.inj h).symm, ?_⟩; repeat (first | exact True.intro | refine ci_XDChk ?_)
    · intro _; refine dr_XDChk ?_; refine awp_cond ?_; intro _; refine litT ?_; refine awp_seq ?_; refine awp_region ?_; intro _; refine dr_XDChk ?_; refine awp_ret ?_; have j6 := Option.some.inj h; subst j6; replace h := (osum_r hK2); intro _; obtain rfl := inj1 h; repeat (first | exact True.intro | refine ci_XDChk ?_)
  · rintro _ ho; have ho := ho.symm; subst ho; intro _; replace h := (osum_l hK2); refine awp_seq ?_; refine awp_seq ?_; refine awp_region ?_; intro _; refine dr_XDChk ?_; refine awp_cond ?_; intro _; refine spl h (fun c7 h => ?_) (fun c7 h => ?_)
    · refine awp_seq ?_; refine awp_region ?_; intro _; refine dr_XDChk ?_; refine awp_ret ?_; intro _; obtain rfl := inj1 h; repeat (first | exact True.intro | refine ci_XDChk ?_)
    · refine awp_skip ?_; obtain ⟨o8, h, hK9⟩ := ob1_ok h; refine awp_cut (α := Unit) (fun _ => mkS 68 [(1, .ptr 1 0 0 0)] [(1, ⟨29, 2, true, [[.c (.int .i64 a0.Bound), .sl 2 (a0.Nogoods.map cN)]]⟩)]) (fun v => o8 = (.inl v)) ?_ ?_
      · refine awp_seq ?_; refine awp_region ?_; intro _; refine dr_XDChk ?_; refine awp_block ?_; refine awp_loop (α := Nat × Int) (fun x => mkS 68 [(1, .ptr 1 0 0 0), (22, .sl 2 (a0.Nogoods.map cN)), (23, .c (.int .i64 ((a0.Nogoods.map cN).length : Int))), (24, .c (.int .i64 x.2))] [(1, ⟨29, 2, true, [[.c (.int .i64 a0.Bound), .sl 2 (a0.Nogoods.map cN)]]⟩)]) (fun x => M_certificate_Check_L1 a0 x.1 x.2 = some o8) (fun x => x.1) ((((a0.Nogoods.map cN).length : Int)).toNat + 1, 0) h ?_ ?_
        · repeat (first | exact True.intro | refine ci_XDChk ?_)
        · intro x10 h; intro _; obtain ⟨k20, m11, h⟩ := succ_of (f := fun n => M_certificate_Check_L1 a0 n x10.2) rfl h; replace h : M_certificate_Check_L1 a0 (k20 + 1) x10.2 = some o8 := h; rw [M_certificate_Check_L1] at h; refine awp_seq ?_; refine awp_region ?_; intro _; refine dr_XDChk ?_; refine awp_seq ?_; refine awp_cond ?_; intro _; refine spl h (fun c12 h => ?_) (fun c12 h => ?_)
          · refine awp_skip ?_; refine awp_seq ?_; refine awp_block ?_; refine awp_seq ?_; refine awp_region ?_; intro _; obtain ⟨y21, w13, q14, h⟩ := ix_ok h; refine Exists.intro (cN y21) (And.intro (map_at' w13) ?_); intro _; refine pr_XDChk ?_; refine dr_XDChk ?_; refine awp_seq ?_; refine awp_region ?_; intro _; obtain ⟨z22, u15, h⟩ := ob1_ok h; refine cl_XDChk rfl (A_certificate_formed y21.1 u15) ?_; intro _; refine dr_XDChk ?_; refine awp_cond ?_; intro _; refine spl h (fun c16 h => ?_) (fun c16 h => ?_)
            · refine awp_seq ?_; refine awp_region ?_; intro _; refine dr_XDChk ?_; refine awp_ret ?_; have j17 := Option.some.inj h; subst j17; replace h := (osum_r hK9); intro _; obtain rfl := inj1 h; repeat (first | exact True.intro | refine ci_XDChk ?_)
            · refine awp_skip ?_; refine awp_region ?_; intro _; refine dr_XDChk ?_; refine ⟨(k20, (IntKind.i64.wrap (x10.2 + 1))), h, lt_of_succ m11, ?_⟩; repeat (first | exact True.intro | refine ci_XDChk ?_)
          · refine awp_exit ?_; refine ⟨(), (Option.some.inj h).symm, ?_⟩; repeat (first | exact True.intro | refine ci_XDChk ?_)
      · rintro _ ho; have ho := ho.symm; subst ho; intro _; replace h := (osum_l hK9); refine awp_seq ?_; refine awp_seq ?_; refine awp_region ?_; intro _; refine dr_XDChk ?_; refine awp_block ?_; refine awp_loop (α := Nat × Int) (fun x => mkS 68 [(1, .ptr 1 0 0 0), (35, .sl 2 (a0.Nogoods.map cN)), (36, .c (.int .i64 ((a0.Nogoods.map cN).length : Int))), (37, .c (.int .i64 x.2))] [(1, ⟨29, 2, true, [[.c (.int .i64 a0.Bound), .sl 2 (a0.Nogoods.map cN)]]⟩)]) (fun x => M_certificate_Check_L2 a0 x.1 x.2 = some r1) (fun x => x.1) ((((a0.Nogoods.map cN).length : Int)).toNat + 1, 0) h ?_ ?_
        · repeat (first | exact True.intro | refine ci_XDChk ?_)
        · intro x18 h; intro _; obtain ⟨k27, m19, h⟩ := succ_of (f := fun n => M_certificate_Check_L2 a0 n x18.2) rfl h; replace h : M_certificate_Check_L2 a0 (k27 + 1) x18.2 = some r1 := h; rw [M_certificate_Check_L2] at h; refine awp_seq ?_; refine awp_region ?_; intro _; refine dr_XDChk ?_; refine awp_seq ?_; refine awp_cond ?_; intro _; refine spl h (fun c20 h => ?_) (fun c20 h => ?_)
          · refine awp_skip ?_; refine awp_seq ?_; refine awp_block ?_; refine awp_seq ?_; refine awp_region ?_; intro _; obtain ⟨y28, w21, q22, h⟩ := ix_ok h; refine Exists.intro (cN y28) (And.intro (map_at' w21) ?_); intro _; refine pr_XDChk ?_; refine dr_XDChk ?_; refine awp_seq ?_; refine awp_region ?_; intro _; refine spf h (fun c23 h => ?_) (fun c23 h => ?_)
            · intro _; refine spl h (fun c24 h => ?_) (fun c24 h => ?_)
              · intro _; refine spf h (fun c25 h => ?_) (fun c25 h => ?_)
                · intro _; refine spl h (fun c26 h => ?_) (fun c26 h => ?_)
                  · intro _; refine dr_XDChk ?_; refine awp_cond ?_; intro _; refine spl h (fun c27 h => ?_) (fun c27 h => ?_)
                    · refine awp_seq ?_; refine awp_region ?_; intro _; refine dr_XDChk ?_; refine awp_ret ?_; intro _; obtain rfl := inj1 h; repeat (first | exact True.intro | refine ci_XDChk ?_)
                    · refine awp_skip ?_; refine awp_region ?_; intro _; refine dr_XDChk ?_; refine ⟨(k27, (IntKind.i64.wrap (x18.2 + 1))), h, lt_of_succ m19, ?_⟩; repeat (first | exact True.intro | refine ci_XDChk ?_)
                  · intro _; refine dr_XDChk ?_; refine awp_cond ?_; intro _; refine litF ?_; refine awp_skip ?_; refine awp_region ?_; intro _; refine dr_XDChk ?_; refine ⟨(k27, (IntKind.i64.wrap (x18.2 + 1))), h, lt_of_succ m19, ?_⟩; repeat (first | exact True.intro | refine ci_XDChk ?_)
                · intro _; refine dr_XDChk ?_; refine awp_cond ?_; intro _; refine litT ?_; refine awp_seq ?_; refine awp_region ?_; intro _; refine dr_XDChk ?_; refine awp_ret ?_; intro _; obtain rfl := inj1 h; repeat (first | exact True.intro | refine ci_XDChk ?_)
              · intro _; refine spl h (fun c28 h => ?_) (fun c28 h => ?_)
                · intro _; refine dr_XDChk ?_; refine awp_cond ?_; intro _; refine spl h (fun c29 h => ?_) (fun c29 h => ?_)
                  · refine awp_seq ?_; refine awp_region ?_; intro _; refine dr_XDChk ?_; refine awp_ret ?_; intro _; obtain rfl := inj1 h; repeat (first | exact True.intro | refine ci_XDChk ?_)
                  · refine awp_skip ?_; refine awp_region ?_; intro _; refine dr_XDChk ?_; refine ⟨(k27, (IntKind.i64.wrap (x18.2 + 1))), h, lt_of_succ m19, ?_⟩; repeat (first | exact True.intro | refine ci_XDChk ?_)
                · intro _; refine dr_XDChk ?_; refine awp_cond ?_; intro _; refine litF ?_; refine awp_skip ?_; refine awp_region ?_; intro _; refine dr_XDChk ?_; refine ⟨(k27, (IntKind.i64.wrap (x18.2 + 1))), h, lt_of_succ m19, ?_⟩; repeat (first | exact True.intro | refine ci_XDChk ?_)
            · intro _; refine dr_XDChk ?_; refine awp_cond ?_; intro _; refine litT ?_; refine awp_seq ?_; refine awp_region ?_; intro _; refine dr_XDChk ?_; refine awp_ret ?_; intro _; obtain rfl := inj1 h; repeat (first | exact True.intro | refine ci_XDChk ?_)
          · refine awp_exit ?_; refine awp_seq ?_; refine awp_region ?_; intro _; refine dr_XDChk ?_; refine awp_ret ?_; intro _; obtain rfl := inj1 h; repeat (first | exact True.intro | refine ci_XDChk ?_)
def M_certificate_Proper_L1 (a0 : List Int) (a1 : GCertificate) : Nat → Int → Option (Er)
  | 0, _ => none
  | k9 + 1, v8 =>
    sel (decide (v8 < ((a1.Nogoods.map cN).length : Int)))
     (ix a1.Nogoods v8 (fun y10 =>
       ob1 (M_task_Facts a0 y10.1) (fun z11 =>
        sel (!z11)
         (some (Er.no 2))
         (M_certificate_Proper_L1 a0 a1 k9 (IntKind.i64.wrap (v8 + 1))))))
     (some Er.nil)
def M_certificate_Proper (a0 : List Int) (a1 : GCertificate) : Option (Er) :=
  ob1 (M_certificate_Check a1) (fun z1 =>
   erM z1
    (M_certificate_Proper_L1 a0 a1 ((((a1.Nogoods.map cN).length : Int)).toNat + 1) 0)
    (fun e2 => some (Er.no e2)))
set_option maxHeartbeats 16000000 in
set_option maxRecDepth 100000 in
theorem A_certificate_Proper (a0 : List Int) (a1 : GCertificate) {r1 : Er} (h : M_certificate_Proper a0 a1 = some r1) : ACall cx 34 [.sl 1 (a0.map cI), .agg [.c (.int .i64 a1.Bound), .sl 2 (a1.Nogoods.map cN)]] (eA r1) := by
  refine acall_of Tryz.func34 rfl (by decide) rfl (Nat.le_of_ble_eq_true rfl) ?_; intro _; unfold M_certificate_Proper at h; refine awp_seq ?_; refine awp_region ?_; intro _; refine dr_XDChk ?_; refine awp_seq ?_; refine awp_seq ?_; refine awp_region ?_; intro _; obtain ⟨z1, u1, h⟩ := ob1_ok h; refine cl_XDChk rfl (A_certificate_Check a1 u1) ?_; intro _; refine dr_XDChk ?_; refine awp_seq ?_; rcases z1 with _ | e2
  · replace h := erM_nil h; refine awp_region ?_; intro _; refine dr_XDChk ?_; refine awp_cond ?_; intro _; refine litF ?_; refine awp_skip ?_; refine awp_seq ?_; refine awp_seq ?_; refine awp_region ?_; intro _; refine dr_XDChk ?_; refine awp_block ?_; refine awp_loop (α := Nat × Int) (fun x => mkS 27 [(0, .sl 1 (a0.map cI)), (14, .sl 2 (a1.Nogoods.map cN)), (15, .c (.int .i64 ((a1.Nogoods.map cN).length : Int))), (16, .c (.int .i64 x.2))] []) (fun x => M_certificate_Proper_L1 a0 a1 x.1 x.2 = some r1) (fun x => x.1) ((((a1.Nogoods.map cN).length : Int)).toNat + 1, 0) h ?_ ?_
    · repeat (first | exact True.intro | refine ci_XDChk ?_)
    · intro x2 h; intro _; obtain ⟨k9, m3, h⟩ := succ_of (f := fun n => M_certificate_Proper_L1 a0 a1 n x2.2) rfl h; replace h : M_certificate_Proper_L1 a0 a1 (k9 + 1) x2.2 = some r1 := h; rw [M_certificate_Proper_L1] at h; refine awp_seq ?_; refine awp_region ?_; intro _; refine dr_XDChk ?_; refine awp_seq ?_; refine awp_cond ?_; intro _; refine spl h (fun c4 h => ?_) (fun c4 h => ?_)
      · refine awp_skip ?_; refine awp_seq ?_; refine awp_block ?_; refine awp_seq ?_; refine awp_region ?_; intro _; obtain ⟨y10, w5, q6, h⟩ := ix_ok h; refine Exists.intro (cN y10) (And.intro (map_at' w5) ?_); intro _; refine pr_XDChk ?_; refine dr_XDChk ?_; refine awp_seq ?_; refine awp_region ?_; intro _; obtain ⟨z11, u7, h⟩ := ob1_ok h; refine cl_XDChk rfl (A_task_Facts a0 y10.1 u7) ?_; intro _; refine dr_XDChk ?_; refine awp_cond ?_; intro _; refine spl h (fun c8 h => ?_) (fun c8 h => ?_)
        · refine awp_seq ?_; refine awp_region ?_; intro _; refine dr_XDChk ?_; refine awp_ret ?_; intro _; obtain rfl := inj1 h; repeat (first | exact True.intro | refine ci_XDChk ?_)
        · refine awp_skip ?_; refine awp_region ?_; intro _; refine dr_XDChk ?_; refine ⟨(k9, (IntKind.i64.wrap (x2.2 + 1))), h, lt_of_succ m3, ?_⟩; repeat (first | exact True.intro | refine ci_XDChk ?_)
      · refine awp_exit ?_; refine awp_seq ?_; refine awp_region ?_; intro _; refine dr_XDChk ?_; refine awp_ret ?_; intro _; obtain rfl := inj1 h; repeat (first | exact True.intro | refine ci_XDChk ?_)
  · replace h := erM_no h; refine awp_region ?_; intro _; refine dr_XDChk ?_; refine awp_cond ?_; intro _; refine litT ?_; refine awp_seq ?_; refine awp_region ?_; intro _; refine dr_XDChk ?_; refine awp_ret ?_; intro _; obtain rfl := inj1 h; repeat (first | exact True.intro | refine ci_XDChk ?_)
def M_stratagem_checker_checker_counting_L1 (a0 : GChecker) (a1 : Int) : Nat → Int → (List (List Fact)) → Option (List (List Fact))
  | 0, _, _ => none
  | k7 + 1, v5, v6 =>
    sel (decide (v5 < ((a0.c.Nogoods.map cN).length : Int)))
     (ix a0.c.Nogoods v5 (fun y8 =>
       sel (decide (y8.2 ≤ a1))
        (grd ((v6.length + 1) * 24 ≤ 140737488355328) (M_stratagem_checker_checker_counting_L1 a0 a1 k7 (IntKind.i64.wrap (v5 + 1)) (v6 ++ [y8.1])))
        (M_stratagem_checker_checker_counting_L1 a0 a1 k7 (IntKind.i64.wrap (v5 + 1)) v6)))
     (grd (v6.length ≤ 140737488355328) (some v6))
def M_stratagem_checker_checker_counting (a0 : GChecker) (a1 : Int) : Option (List (List Fact)) :=
  M_stratagem_checker_checker_counting_L1 a0 a1 ((((a0.c.Nogoods.map cN).length : Int)).toNat + 1) 0 []
set_option maxHeartbeats 16000000 in
set_option maxRecDepth 100000 in
theorem A_stratagem_checker_checker_counting (a0 : GChecker) (a1 : Int) {r1 : List (List Fact)} (h : M_stratagem_checker_checker_counting a0 a1 = some r1) : ACallG cx 62 [.ptr 29 0 0 0, .c (.int .i64 a1)] [(29, ⟨73, 7, true, [[.sl 1 (a0.t.Vars.map cI), .sl 1 (a0.t.Init.map cI), .sl 2 (a0.t.Goal.map cF), .sl 4 (a0.t.Ops.map cGOp), .c (.int .i64 a0.c.Bound), .sl 2 (a0.c.Nogoods.map cN), .c (.int .i64 a0.steps)]]⟩)] [29] (.sl 1 (r1.map cL_cF)) [(29, ⟨73, 7, true, [[.sl 1 (a0.t.Vars.map cI), .sl 1 (a0.t.Init.map cI), .sl 2 (a0.t.Goal.map cF), .sl 4 (a0.t.Ops.map cGOp), .c (.int .i64 a0.c.Bound), .sl 2 (a0.c.Nogoods.map cN), .c (.int .i64 a0.steps)]]⟩)] := by
  refine acallg_of 31 Tryz.func62 rfl (by decide) rfl (Nat.le_of_ble_eq_true rfl) rfl rfl ?_; intro _; unfold M_stratagem_checker_checker_counting at h; refine awp_seq ?_; refine awp_region ?_; intro _; refine dr_XDChk ?_; refine awp_seq ?_; refine awp_region ?_; intro _; refine dr_XDChk ?_; refine awp_seq ?_; refine awp_seq ?_; refine awp_region ?_; intro _; refine dr_XDChk ?_; refine awp_block ?_; refine awp_loop (α := Nat × Int × (List (List Fact))) (fun x => mkG 29 31 [(1, .c (.int .i64 a1)), (5, .own 26 0 0 x.2.2.length), (12, .sl 2 (a0.c.Nogoods.map cN)), (13, .c (.int .i64 ((a0.c.Nogoods.map cN).length : Int))), (14, .c (.int .i64 x.2.1))] [(26, ⟨23, 1, false, x.2.2.map cL_cF⟩), (29, ⟨73, 7, true, [[.sl 1 (a0.t.Vars.map cI), .sl 1 (a0.t.Init.map cI), .sl 2 (a0.t.Goal.map cF), .sl 4 (a0.t.Ops.map cGOp), .c (.int .i64 a0.c.Bound), .sl 2 (a0.c.Nogoods.map cN), .c (.int .i64 a0.steps)]]⟩)]) (fun x => M_stratagem_checker_checker_counting_L1 a0 a1 x.1 x.2.1 x.2.2 = some r1) (fun x => x.1) ((((a0.c.Nogoods.map cN).length : Int)).toNat + 1, 0, []) h ?_ ?_
  · repeat (first | exact True.intro | refine ci_XDChk ?_)
  · intro x1 h; intro _; obtain ⟨k7, m2, h⟩ := succ_of (f := fun n => M_stratagem_checker_checker_counting_L1 a0 a1 n x1.2.1 x1.2.2) rfl h; replace h : M_stratagem_checker_checker_counting_L1 a0 a1 (k7 + 1) x1.2.1 x1.2.2 = some r1 := h; rw [M_stratagem_checker_checker_counting_L1] at h; refine awp_seq ?_; refine awp_region ?_; intro _; refine dr_XDChk ?_; refine awp_seq ?_; refine awp_cond ?_; intro _; refine spl h (fun c3 h => ?_) (fun c3 h => ?_)
    · refine awp_skip ?_; refine awp_seq ?_; refine awp_block ?_; refine awp_seq ?_; refine awp_region ?_; intro _; obtain ⟨y8, w4, q5, h⟩ := ix_ok h; refine Exists.intro (cN y8) (And.intro (map_at' w4) ?_); intro _; refine pr_XDChk ?_; refine dr_XDChk ?_; refine awp_seq ?_; refine awp_region ?_; intro _; refine dr_XDChk ?_; refine awp_cond ?_; intro _; refine spl h (fun c6 h => ?_) (fun c6 h => ?_)
      · refine awp_region ?_; intro _; obtain ⟨q7, h⟩ := grd_ok h; refine pl_XDChk ?_; refine pl_XDChk ?_; refine And.intro (by first | assumption | (show (x1.2.2.length + 1) * 24 ≤ 140737488355328; assumption) | omega | (simp; omega)) ?_; refine pe_XDChk ?_; refine dr_XDChk ?_; refine awp_region ?_; intro _; refine dr_XDChk ?_; refine ⟨(k7, (IntKind.i64.wrap (x1.2.1 + 1)), (x1.2.2 ++ [y8.1])), h, lt_of_succ m2, ?_⟩; repeat (first | exact True.intro | refine ci_XDChk ?_)
      · refine awp_skip ?_; refine awp_region ?_; intro _; refine dr_XDChk ?_; refine ⟨(k7, (IntKind.i64.wrap (x1.2.1 + 1)), x1.2.2), h, lt_of_succ m2, ?_⟩; repeat (first | exact True.intro | refine ci_XDChk ?_)
    · refine awp_exit ?_; refine awp_seq ?_; refine awp_region ?_; intro _; refine dr_XDChk ?_; refine awp_ret ?_; obtain ⟨q8, h⟩ := grd_ok h; intro _; obtain rfl := inj1 h; all_goals (refine Exists.intro [] (And.intro rfl (And.intro ?_ ?_))); all_goals (repeat (first | exact True.intro | exact gb_nil rfl rfl | refine gb_some ⟨rfl, rfl, rfl⟩ ?_ | refine And.intro ?_ ?_ | refine gw_ren rfl rfl rfl rfl rfl ?_ | refine gw_pren rfl rfl rfl rfl rfl | exact gw_thaw rfl rfl rfl | refine gw_tup ?_ | exact GWL.nil | exact gwll_nil | exact gw_c | exact GW.sl | exact GW.nil | exact gwll_same rfl FrI.h | refine GWL.cons ?_ ?_ | refine gwll_cons ?_ ?_ | (refine gw_own3 rfl rfl rfl FrI.h ?_ ?_ ?_) | exact GW.fr FrV.h | exact GW.fr (by assumption) | refine gw_agg ?_ | refine gw_clo ?_ | refine gw_ptr rfl rfl rfl ?_ | (refine gw_own rfl rfl rfl ?_ FrI.h ?_ ?_) | assumption | omega | rfl | (rw [List.length_map, ← List.length_append]; assumption) | (refine gwll_same ?_ FrI.h; (simp [cGTask, cI, cF, cGOp, cGEffect, cGCertificate, cN, cGChecker, cL_cF] <;> fail)) | (rw [List.map_set]; refine gwll_set (by first | rfl | omega | simp) ?_ ?_) | refine gwll_set (by first | rfl | omega | simp) ?_ ?_ | (rw [List.map_replicate]; refine gwll_rep ?_) | refine gwll_rep ?_ | (rw [List.map_append]; refine gwll_append ?_ ?_) | refine gwll_append ?_ ?_ | (simp [cGTask, cI, cF, cGOp, cGEffect, cGCertificate, cN, cGChecker, cL_cF, take_len_map] <;> fail) | (rw [List.drop_zero, List.take_of_length_le] <;> first | rfl | (simp [cGTask, cI, cF, cGOp, cGEffect, cGCertificate, cN, cGChecker, cL_cF] <;> fail)) | (simp; omega)))
def M_stratagem_checker_checker_covered (g : Nat) (a0 : GChecker) (a1 : List Fact) (a2 : Int) : Option (Bool × Er × GChecker) :=
  ob1 (M_stratagem_checker_checker_counting a0 a2) (fun z1 =>
   ob3 (M_partial_Covered g a0.t.Vars a1 z1 a0.steps) (fun z2 z3 z4 =>
    erM z4
     (some (z2, Er.nil, { t := a0.t, c := a0.c, steps := (IntKind.i64.wrap (a0.steps - z3)) : GChecker }))
     (fun e5 => some (false, (Er.no e5), a0))))
set_option maxHeartbeats 16000000 in
set_option maxRecDepth 100000 in
theorem A_stratagem_checker_checker_covered (g : Nat) (a0 : GChecker) (a1 : List Fact) (a2 : Int) {r1 : Bool} {r2 : Er} {r3 : GChecker} (h : M_stratagem_checker_checker_covered g a0 a1 a2 = some (r1, r2, r3)) : ACallG cx 36 [.ptr 41 0 0 0, .sl 2 (a1.map cF), .c (.int .i64 a2)] [(41, ⟨73, 7, true, [[.sl 1 (a0.t.Vars.map cI), .sl 1 (a0.t.Init.map cI), .sl 2 (a0.t.Goal.map cF), .sl 4 (a0.t.Ops.map cGOp), .c (.int .i64 a0.c.Bound), .sl 2 (a0.c.Nogoods.map cN), .c (.int .i64 a0.steps)]]⟩)] [41] (.tup [.c (.bool r1), eA r2]) [(41, ⟨73, 7, true, [[.sl 1 (r3.t.Vars.map cI), .sl 1 (r3.t.Init.map cI), .sl 2 (r3.t.Goal.map cF), .sl 4 (r3.t.Ops.map cGOp), .c (.int .i64 r3.c.Bound), .sl 2 (r3.c.Nogoods.map cN), .c (.int .i64 r3.steps)]]⟩)] := by
  refine acallg_of 44 Tryz.func36 rfl (by decide) rfl (Nat.le_of_ble_eq_true rfl) rfl rfl ?_; intro _; unfold M_stratagem_checker_checker_covered at h; refine awp_seq ?_; refine awp_region ?_; intro _; refine dr_XDChk ?_; refine awp_seq ?_; refine awp_region ?_; intro _; obtain ⟨z1, u1, h⟩ := ob1_ok h; refine clk_XDChk [(29, 41)] [(41, ⟨0, some ⟨73, 7, true, [[.sl 1 (a0.t.Vars.map cI), .sl 1 (a0.t.Init.map cI), .sl 2 (a0.t.Goal.map cF), .sl 4 (a0.t.Ops.map cGOp), .c (.int .i64 a0.c.Bound), .sl 2 (a0.c.Nogoods.map cN), .c (.int .i64 a0.steps)]]⟩⟩)] (.sl 1 (z1.map cL_cF)) rfl rfl (A_stratagem_checker_checker_counting a0 a2 u1) ?_; intro _; obtain ⟨z2, z3, z4, u2, h⟩ := ob3_ok h; refine cl_XDChk rfl (A_partial_Covered g a0.t.Vars a1 z1 a0.steps u2) ?_; intro _; refine dr_XDChk ?_; refine awp_seq ?_; refine awp_seq ?_; rcases z4 with _ | e5
  · replace h := erM_nil h; refine awp_region ?_; intro _; refine dr_XDChk ?_; refine awp_cond ?_; intro _; refine litF ?_; refine awp_skip ?_; refine awp_seq ?_; refine awp_region ?_; intro _; refine dr_XDChk ?_; refine awp_seq ?_; refine awp_region ?_; intro _; refine dr_XDChk ?_; refine awp_ret ?_; intro _; obtain ⟨rfl, rfl, rfl⟩ := inj3 h; all_goals (refine Exists.intro [] (And.intro rfl (And.intro ?_ ?_))); all_goals (repeat (first | exact True.intro | exact gb_nil rfl rfl | refine gb_some ⟨rfl, rfl, rfl⟩ ?_ | refine And.intro ?_ ?_ | refine gw_ren rfl rfl rfl rfl rfl ?_ | refine gw_pren rfl rfl rfl rfl rfl | exact gw_thaw rfl rfl rfl | refine gw_tup ?_ | exact GWL.nil | exact gwll_nil | exact gw_c | exact GW.sl | exact GW.nil | exact gwll_same rfl FrI.h | refine GWL.cons ?_ ?_ | refine gwll_cons ?_ ?_ | (refine gw_own3 rfl rfl rfl FrI.h ?_ ?_ ?_) | exact GW.fr FrV.h | exact GW.fr (by assumption) | refine gw_agg ?_ | refine gw_clo ?_ | refine gw_ptr rfl rfl rfl ?_ | (refine gw_own rfl rfl rfl ?_ FrI.h ?_ ?_) | assumption | omega | rfl | (rw [List.length_map, ← List.length_append]; assumption) | (refine gwll_same ?_ FrI.h; (simp [cGTask, cI, cF, cGOp, cGEffect, cGCertificate, cN, cGChecker, cL_cF] <;> fail)) | (rw [List.map_set]; refine gwll_set (by first | rfl | omega | simp) ?_ ?_) | refine gwll_set (by first | rfl | omega | simp) ?_ ?_ | (rw [List.map_replicate]; refine gwll_rep ?_) | refine gwll_rep ?_ | (rw [List.map_append]; refine gwll_append ?_ ?_) | refine gwll_append ?_ ?_ | (simp [cGTask, cI, cF, cGOp, cGEffect, cGCertificate, cN, cGChecker, cL_cF, take_len_map] <;> fail) | (rw [List.drop_zero, List.take_of_length_le] <;> first | rfl | (simp [cGTask, cI, cF, cGOp, cGEffect, cGCertificate, cN, cGChecker, cL_cF] <;> fail)) | (simp; omega)))
  · replace h := erM_no h; refine awp_region ?_; intro _; refine dr_XDChk ?_; refine awp_cond ?_; intro _; refine litT ?_; refine awp_seq ?_; refine awp_region ?_; intro _; refine dr_XDChk ?_; refine awp_ret ?_; intro _; obtain ⟨rfl, rfl, rfl⟩ := inj3 h; all_goals (refine Exists.intro [] (And.intro rfl (And.intro ?_ ?_))); all_goals (repeat (first | exact True.intro | exact gb_nil rfl rfl | refine gb_some ⟨rfl, rfl, rfl⟩ ?_ | refine And.intro ?_ ?_ | refine gw_ren rfl rfl rfl rfl rfl ?_ | refine gw_pren rfl rfl rfl rfl rfl | exact gw_thaw rfl rfl rfl | refine gw_tup ?_ | exact GWL.nil | exact gwll_nil | exact gw_c | exact GW.sl | exact GW.nil | exact gwll_same rfl FrI.h | refine GWL.cons ?_ ?_ | refine gwll_cons ?_ ?_ | (refine gw_own3 rfl rfl rfl FrI.h ?_ ?_ ?_) | exact GW.fr FrV.h | exact GW.fr (by assumption) | refine gw_agg ?_ | refine gw_clo ?_ | refine gw_ptr rfl rfl rfl ?_ | (refine gw_own rfl rfl rfl ?_ FrI.h ?_ ?_) | assumption | omega | rfl | (rw [List.length_map, ← List.length_append]; assumption) | (refine gwll_same ?_ FrI.h; (simp [cGTask, cI, cF, cGOp, cGEffect, cGCertificate, cN, cGChecker, cL_cF] <;> fail)) | (rw [List.map_set]; refine gwll_set (by first | rfl | omega | simp) ?_ ?_) | refine gwll_set (by first | rfl | omega | simp) ?_ ?_ | (rw [List.map_replicate]; refine gwll_rep ?_) | refine gwll_rep ?_ | (rw [List.map_append]; refine gwll_append ?_ ?_) | refine gwll_append ?_ ?_ | (simp [cGTask, cI, cF, cGOp, cGEffect, cGCertificate, cN, cGChecker, cL_cF, take_len_map] <;> fail) | (rw [List.drop_zero, List.take_of_length_le] <;> first | rfl | (simp [cGTask, cI, cF, cGOp, cGEffect, cGCertificate, cN, cGChecker, cL_cF] <;> fail)) | (simp; omega)))
def M_stratagem_checker_checker_step_L1 (g : Nat) (v2 : Int) (z7 : List (List Fact)) : Nat → Int → (List Int) → (List Int) → (List Fact) → (List GOp) → Int → (List Nogood) → Int → Option (Er × GChecker)
  | 0, _, _, _, _, _, _, _, _ => none
  | k36 + 1, v28, v29, v30, v31, v32, v33, v34, v35 =>
    sel (decide (v28 < ((z7.map cL_cF).length : Int)))
     (ix z7 v28 (fun y37 =>
       ob3 (M_stratagem_checker_checker_covered g ({ t := { Vars := v29, Init := v30, Goal := v31, Ops := v32 : GTask }, c := { Bound := v33, Nogoods := v34 : GCertificate }, steps := v35 : GChecker }) y37 v2) (fun z38 z39 c40 =>
        erM z39
         (sel (!z38)
           (some ((Er.no 19), c40))
           (M_stratagem_checker_checker_step_L1 g v2 z7 k36 (IntKind.i64.wrap (v28 + 1)) c40.t.Vars c40.t.Init c40.t.Goal c40.t.Ops c40.c.Bound c40.c.Nogoods c40.steps))
         (fun e41 => some ((Er.no e41), c40)))))
     (some (Er.nil, { t := { Vars := v29, Init := v30, Goal := v31, Ops := v32 : GTask }, c := { Bound := v33, Nogoods := v34 : GCertificate }, steps := v35 : GChecker }))
def M_stratagem_checker_checker_step (g : Nat) (a0 : GChecker) (a1 : Nogood) (a2 : Int) : Option (Er × GChecker) :=
  ob1 (sel (decide (a0.c.Bound ≥ 0))
    (ix a0.t.Ops a2 (fun y6 =>
      sel (decide ((IntKind.i64.wrap (a1.2 + y6.Cost)) ≥ a0.c.Bound))
       (some (.inr (Er.nil, a0)))
       (some (.inl (IntKind.i64.wrap (a1.2 + y6.Cost))))))
    (some (.inl 0)) : Option (Int ⊕ (Er × GChecker)))
   (osum
   (fun v2 => ob2 (M_regress_Regress g a0.t a2 a1.1) (fun z7 z8 =>
      erM z8
       (M_stratagem_checker_checker_step_L1 g v2 z7 ((((z7.map cL_cF).length : Int)).toNat + 1) 0 a0.t.Vars a0.t.Init a0.t.Goal a0.t.Ops a0.c.Bound a0.c.Nogoods a0.steps)
       (fun e9 => some ((Er.no e9), a0))))
   (fun (r3, r4) => some (r3, r4)))
set_option maxHeartbeats 16000000 in
set_option maxRecDepth 100000 in
theorem A_stratagem_checker_checker_step (g : Nat) (a0 : GChecker) (a1 : Nogood) (a2 : Int) {r1 : Er} {r2 : GChecker} (h : M_stratagem_checker_checker_step g a0 a1 a2 = some (r1, r2)) : ACallG cx 37 [.ptr 73 0 0 0, .agg [.sl 2 (a1.1.map cF), .c (.int .i64 a1.2)], .c (.int .i64 a2)] [(73, ⟨73, 7, true, [[.sl 1 (a0.t.Vars.map cI), .sl 1 (a0.t.Init.map cI), .sl 2 (a0.t.Goal.map cF), .sl 4 (a0.t.Ops.map cGOp), .c (.int .i64 a0.c.Bound), .sl 2 (a0.c.Nogoods.map cN), .c (.int .i64 a0.steps)]]⟩)] [73] (eA r1) [(73, ⟨73, 7, true, [[.sl 1 (r2.t.Vars.map cI), .sl 1 (r2.t.Init.map cI), .sl 2 (r2.t.Goal.map cF), .sl 4 (r2.t.Ops.map cGOp), .c (.int .i64 r2.c.Bound), .sl 2 (r2.c.Nogoods.map cN), .c (.int .i64 r2.steps)]]⟩)] := by
  refine acallg_of 76 Tryz.func37 rfl (by decide) rfl (Nat.le_of_ble_eq_true rfl) rfl rfl ?_; intro _; unfold M_stratagem_checker_checker_step at h; refine awp_seq ?_; refine awp_region ?_; intro _; refine dr_XDChk ?_; refine awp_seq ?_; refine awp_region ?_; intro _; refine dr_XDChk ?_; obtain ⟨o1, h, hK2⟩ := ob1_ok h; refine awp_cut (α := Int) (fun v2 => mkG 73 76 [(0, .ptr 73 0 0 0), (2, .c (.int .i64 a2)), (4, .ptr 4 0 0 0), (7, .c (.int .i64 v2))] [(4, ⟨51, 2, true, [[.sl 2 (a1.1.map cF), .c (.int .i64 a1.2)]]⟩), (73, ⟨73, 7, true, [[.sl 1 (a0.t.Vars.map cI), .sl 1 (a0.t.Init.map cI), .sl 2 (a0.t.Goal.map cF), .sl 4 (a0.t.Ops.map cGOp), .c (.int .i64 a0.c.Bound), .sl 2 (a0.c.Nogoods.map cN), .c (.int .i64 a0.steps)]]⟩)]) (fun v => o1 = (.inl v)) ?_ ?_
  · refine awp_seq ?_; refine awp_region ?_; intro _; refine dr_XDChk ?_; refine awp_cond ?_; intro _; refine spl h (fun c3 h => ?_) (fun c3 h => ?_)
    · refine awp_seq ?_; refine awp_region ?_; intro _; obtain ⟨y6, w4, q5, h⟩ := ix_ok h; refine Exists.intro (cGOp y6) (And.intro (map_at' w4) ?_); intro _; refine pr_XDChk ?_; refine dr_XDChk ?_; refine awp_seq ?_; refine awp_region ?_; intro _; refine dr_XDChk ?_; refine awp_cond ?_; intro _; refine spl h (fun c6 h => ?_) (fun c6 h => ?_)
      · refine awp_seq ?_; refine awp_region ?_; intro _; refine dr_XDChk ?_; refine awp_ret ?_; have j7 := Option.some.inj h; subst j7; replace h := (osum_r hK2); intro _; obtain ⟨rfl, rfl⟩ := inj2 h; all_goals (refine Exists.intro [] (And.intro rfl (And.intro ?_ ?_))); all_goals (repeat (first | exact True.intro | exact gb_nil rfl rfl | refine gb_some ⟨rfl, rfl, rfl⟩ ?_ | refine And.intro ?_ ?_ | refine gw_ren rfl rfl rfl rfl rfl ?_ | refine gw_pren rfl rfl rfl rfl rfl | exact gw_thaw rfl rfl rfl | refine gw_tup ?_ | exact GWL.nil | exact gwll_nil | exact gw_c | exact GW.sl | exact GW.nil | exact gwll_same rfl FrI.h | refine GWL.cons ?_ ?_ | refine gwll_cons ?_ ?_ | (refine gw_own3 rfl rfl rfl FrI.h ?_ ?_ ?_) | exact GW.fr FrV.h | exact GW.fr (by assumption) | refine gw_agg ?_ | refine gw_clo ?_ | refine gw_ptr rfl rfl rfl ?_ | (refine gw_own rfl rfl rfl ?_ FrI.h ?_ ?_) | assumption | omega | rfl | (rw [List.length_map, ← List.length_append]; assumption) | (refine gwll_same ?_ FrI.h; (simp [cGTask, cI, cF, cGOp, cGEffect, cGCertificate, cN, cGChecker, cL_cF] <;> fail)) | (rw [List.map_set]; refine gwll_set (by first | rfl | omega | simp) ?_ ?_) | refine gwll_set (by first | rfl | omega | simp) ?_ ?_ | (rw [List.map_replicate]; refine gwll_rep ?_) | refine gwll_rep ?_ | (rw [List.map_append]; refine gwll_append ?_ ?_) | refine gwll_append ?_ ?_ | (simp [cGTask, cI, cF, cGOp, cGEffect, cGCertificate, cN, cGChecker, cL_cF, take_len_map] <;> fail) | (rw [List.drop_zero, List.take_of_length_le] <;> first | rfl | (simp [cGTask, cI, cF, cGOp, cGEffect, cGCertificate, cN, cGChecker, cL_cF] <;> fail)) | (simp; omega)))
      · refine awp_skip ?_; refine ⟨(IntKind.i64.wrap (a1.2 + y6.Cost)), (Option.some.inj h).symm, ?_⟩; repeat (first | exact True.intro | refine ci_XDChk ?_)
    · refine awp_skip ?_; refine ⟨0, (Option.some.inj h).symm, ?_⟩; repeat (first | exact True.intro | refine ci_XDChk ?_)
  · rintro v2 ho; have ho := ho.symm; subst ho; intro _; replace h := (osum_l hK2); refine awp_seq ?_; refine awp_region ?_; intro _; obtain ⟨z7, z8, u8, h⟩ := ob2_ok h; refine cl_XDChk rfl (A_regress_Regress g a0.t a2 a1.1 u8) ?_; intro _; refine dr_XDChk ?_; refine awp_seq ?_; refine awp_seq ?_; rcases z8 with _ | e9
    · replace h := erM_nil h; refine awp_region ?_; intro _; refine dr_XDChk ?_; refine awp_cond ?_; intro _; refine litF ?_; refine awp_skip ?_; refine awp_seq ?_; refine awp_seq ?_; refine awp_region ?_; intro _; refine dr_XDChk ?_; refine awp_block ?_; refine awp_loop (α := Nat × Int × (List Int) × (List Int) × (List Fact) × (List GOp) × Int × (List Nogood) × Int) (fun x => mkG 73 76 [(0, .ptr 73 0 0 0), (7, .c (.int .i64 v2)), (53, .sl 1 (z7.map cL_cF)), (54, .c (.int .i64 ((z7.map cL_cF).length : Int))), (55, .c (.int .i64 x.2.1))] [(73, ⟨73, 7, true, [[.sl 1 (x.2.2.1.map cI), .sl 1 (x.2.2.2.1.map cI), .sl 2 (x.2.2.2.2.1.map cF), .sl 4 (x.2.2.2.2.2.1.map cGOp), .c (.int .i64 x.2.2.2.2.2.2.1), .sl 2 (x.2.2.2.2.2.2.2.1.map cN), .c (.int .i64 x.2.2.2.2.2.2.2.2)]]⟩)]) (fun x => M_stratagem_checker_checker_step_L1 g v2 z7 x.1 x.2.1 x.2.2.1 x.2.2.2.1 x.2.2.2.2.1 x.2.2.2.2.2.1 x.2.2.2.2.2.2.1 x.2.2.2.2.2.2.2.1 x.2.2.2.2.2.2.2.2 = some (r1, r2)) (fun x => x.1) ((((z7.map cL_cF).length : Int)).toNat + 1, 0, a0.t.Vars, a0.t.Init, a0.t.Goal, a0.t.Ops, a0.c.Bound, a0.c.Nogoods, a0.steps) h ?_ ?_
      · repeat (first | exact True.intro | refine ci_XDChk ?_)
      · intro x9 h; intro _; obtain ⟨k36, m10, h⟩ := succ_of (f := fun n => M_stratagem_checker_checker_step_L1 g v2 z7 n x9.2.1 x9.2.2.1 x9.2.2.2.1 x9.2.2.2.2.1 x9.2.2.2.2.2.1 x9.2.2.2.2.2.2.1 x9.2.2.2.2.2.2.2.1 x9.2.2.2.2.2.2.2.2) rfl h; replace h : M_stratagem_checker_checker_step_L1 g v2 z7 (k36 + 1) x9.2.1 x9.2.2.1 x9.2.2.2.1 x9.2.2.2.2.1 x9.2.2.2.2.2.1 x9.2.2.2.2.2.2.1 x9.2.2.2.2.2.2.2.1 x9.2.2.2.2.2.2.2.2 = some (r1, r2) := h; rw [M_stratagem_checker_checker_step_L1] at h; refine awp_seq ?_; refine awp_region ?_; intro _; refine dr_XDChk ?_; refine awp_seq ?_; refine awp_cond ?_; intro _; refine spl h (fun c11 h => ?_) (fun c11 h => ?_)
        · refine awp_skip ?_; refine awp_seq ?_; refine awp_block ?_; refine awp_seq ?_; refine awp_region ?_; intro _; obtain ⟨y37, w12, q13, h⟩ := ix_ok h; refine Exists.intro (cL_cF y37) (And.intro (map_at' w12) ?_); intro _; refine pr_XDChk ?_; refine dr_XDChk ?_; refine awp_seq ?_; refine awp_region ?_; intro _; obtain ⟨z38, z39, c40, u14, h⟩ := ob3_ok h; refine clg_XDChk [(41, 73)] [] [] [(73, ⟨0, some ⟨73, 7, true, [[.sl 1 (c40.t.Vars.map cI), .sl 1 (c40.t.Init.map cI), .sl 2 (c40.t.Goal.map cF), .sl 4 (c40.t.Ops.map cGOp), .c (.int .i64 c40.c.Bound), .sl 2 (c40.c.Nogoods.map cN), .c (.int .i64 c40.steps)]]⟩⟩)] (.tup [.c (.bool z38), eA z39]) rfl rfl (A_stratagem_checker_checker_covered g ({ t := { Vars := x9.2.2.1, Init := x9.2.2.2.1, Goal := x9.2.2.2.2.1, Ops := x9.2.2.2.2.2.1 : GTask }, c := { Bound := x9.2.2.2.2.2.2.1, Nogoods := x9.2.2.2.2.2.2.2.1 : GCertificate }, steps := x9.2.2.2.2.2.2.2.2 : GChecker }) y37 v2 u14) ?_; intro _; refine dr_XDChk ?_; refine awp_seq ?_; refine awp_seq ?_; rcases z39 with _ | e41
          · replace h := erM_nil h; refine awp_region ?_; intro _; refine dr_XDChk ?_; refine awp_cond ?_; intro _; refine litF ?_; refine awp_skip ?_; refine awp_seq ?_; refine awp_region ?_; intro _; refine dr_XDChk ?_; refine awp_cond ?_; intro _; refine spl h (fun c15 h => ?_) (fun c15 h => ?_)
            · refine awp_seq ?_; refine awp_region ?_; intro _; refine dr_XDChk ?_; refine awp_ret ?_; intro _; obtain ⟨rfl, rfl⟩ := inj2 h; all_goals (refine Exists.intro [] (And.intro rfl (And.intro ?_ ?_))); all_goals (repeat (first | exact True.intro | exact gb_nil rfl rfl | refine gb_some ⟨rfl, rfl, rfl⟩ ?_ | refine And.intro ?_ ?_ | refine gw_ren rfl rfl rfl rfl rfl ?_ | refine gw_pren rfl rfl rfl rfl rfl | exact gw_thaw rfl rfl rfl | refine gw_tup ?_ | exact GWL.nil | exact gwll_nil | exact gw_c | exact GW.sl | exact GW.nil | exact gwll_same rfl FrI.h | refine GWL.cons ?_ ?_ | refine gwll_cons ?_ ?_ | (refine gw_own3 rfl rfl rfl FrI.h ?_ ?_ ?_) | exact GW.fr FrV.h | exact GW.fr (by assumption) | refine gw_agg ?_ | refine gw_clo ?_ | refine gw_ptr rfl rfl rfl ?_ | (refine gw_own rfl rfl rfl ?_ FrI.h ?_ ?_) | assumption | omega | rfl | (rw [List.length_map, ← List.length_append]; assumption) | (refine gwll_same ?_ FrI.h; (simp [cGTask, cI, cF, cGOp, cGEffect, cGCertificate, cN, cGChecker, cL_cF] <;> fail)) | (rw [List.map_set]; refine gwll_set (by first | rfl | omega | simp) ?_ ?_) | refine gwll_set (by first | rfl | omega | simp) ?_ ?_ | (rw [List.map_replicate]; refine gwll_rep ?_) | refine gwll_rep ?_ | (rw [List.map_append]; refine gwll_append ?_ ?_) | refine gwll_append ?_ ?_ | (simp [cGTask, cI, cF, cGOp, cGEffect, cGCertificate, cN, cGChecker, cL_cF, take_len_map] <;> fail) | (rw [List.drop_zero, List.take_of_length_le] <;> first | rfl | (simp [cGTask, cI, cF, cGOp, cGEffect, cGCertificate, cN, cGChecker, cL_cF] <;> fail)) | (simp; omega)))
            · refine awp_skip ?_; refine awp_region ?_; intro _; refine dr_XDChk ?_; refine ⟨(k36, (IntKind.i64.wrap (x9.2.1 + 1)), c40.t.Vars, c40.t.Init, c40.t.Goal, c40.t.Ops, c40.c.Bound, c40.c.Nogoods, c40.steps), h, lt_of_succ m10, ?_⟩; repeat (first | exact True.intro | refine ci_XDChk ?_)
          · replace h := erM_no h; refine awp_region ?_; intro _; refine dr_XDChk ?_; refine awp_cond ?_; intro _; refine litT ?_; refine awp_seq ?_; refine awp_region ?_; intro _; refine dr_XDChk ?_; refine awp_ret ?_; intro _; obtain ⟨rfl, rfl⟩ := inj2 h; all_goals (refine Exists.intro [] (And.intro rfl (And.intro ?_ ?_))); all_goals (repeat (first | exact True.intro | exact gb_nil rfl rfl | refine gb_some ⟨rfl, rfl, rfl⟩ ?_ | refine And.intro ?_ ?_ | refine gw_ren rfl rfl rfl rfl rfl ?_ | refine gw_pren rfl rfl rfl rfl rfl | exact gw_thaw rfl rfl rfl | refine gw_tup ?_ | exact GWL.nil | exact gwll_nil | exact gw_c | exact GW.sl | exact GW.nil | exact gwll_same rfl FrI.h | refine GWL.cons ?_ ?_ | refine gwll_cons ?_ ?_ | (refine gw_own3 rfl rfl rfl FrI.h ?_ ?_ ?_) | exact GW.fr FrV.h | exact GW.fr (by assumption) | refine gw_agg ?_ | refine gw_clo ?_ | refine gw_ptr rfl rfl rfl ?_ | (refine gw_own rfl rfl rfl ?_ FrI.h ?_ ?_) | assumption | omega | rfl | (rw [List.length_map, ← List.length_append]; assumption) | (refine gwll_same ?_ FrI.h; (simp [cGTask, cI, cF, cGOp, cGEffect, cGCertificate, cN, cGChecker, cL_cF] <;> fail)) | (rw [List.map_set]; refine gwll_set (by first | rfl | omega | simp) ?_ ?_) | refine gwll_set (by first | rfl | omega | simp) ?_ ?_ | (rw [List.map_replicate]; refine gwll_rep ?_) | refine gwll_rep ?_ | (rw [List.map_append]; refine gwll_append ?_ ?_) | refine gwll_append ?_ ?_ | (simp [cGTask, cI, cF, cGOp, cGEffect, cGCertificate, cN, cGChecker, cL_cF, take_len_map] <;> fail) | (rw [List.drop_zero, List.take_of_length_le] <;> first | rfl | (simp [cGTask, cI, cF, cGOp, cGEffect, cGCertificate, cN, cGChecker, cL_cF] <;> fail)) | (simp; omega)))
        · refine awp_exit ?_; refine awp_seq ?_; refine awp_region ?_; intro _; refine dr_XDChk ?_; refine awp_ret ?_; intro _; obtain ⟨rfl, rfl⟩ := inj2 h; all_goals (refine Exists.intro [] (And.intro rfl (And.intro ?_ ?_))); all_goals (repeat (first | exact True.intro | exact gb_nil rfl rfl | refine gb_some ⟨rfl, rfl, rfl⟩ ?_ | refine And.intro ?_ ?_ | refine gw_ren rfl rfl rfl rfl rfl ?_ | refine gw_pren rfl rfl rfl rfl rfl | exact gw_thaw rfl rfl rfl | refine gw_tup ?_ | exact GWL.nil | exact gwll_nil | exact gw_c | exact GW.sl | exact GW.nil | exact gwll_same rfl FrI.h | refine GWL.cons ?_ ?_ | refine gwll_cons ?_ ?_ | (refine gw_own3 rfl rfl rfl FrI.h ?_ ?_ ?_) | exact GW.fr FrV.h | exact GW.fr (by assumption) | refine gw_agg ?_ | refine gw_clo ?_ | refine gw_ptr rfl rfl rfl ?_ | (refine gw_own rfl rfl rfl ?_ FrI.h ?_ ?_) | assumption | omega | rfl | (rw [List.length_map, ← List.length_append]; assumption) | (refine gwll_same ?_ FrI.h; (simp [cGTask, cI, cF, cGOp, cGEffect, cGCertificate, cN, cGChecker, cL_cF] <;> fail)) | (rw [List.map_set]; refine gwll_set (by first | rfl | omega | simp) ?_ ?_) | refine gwll_set (by first | rfl | omega | simp) ?_ ?_ | (rw [List.map_replicate]; refine gwll_rep ?_) | refine gwll_rep ?_ | (rw [List.map_append]; refine gwll_append ?_ ?_) | refine gwll_append ?_ ?_ | (simp [cGTask, cI, cF, cGOp, cGEffect, cGCertificate, cN, cGChecker, cL_cF, take_len_map] <;> fail) | (rw [List.drop_zero, List.take_of_length_le] <;> first | rfl | (simp [cGTask, cI, cF, cGOp, cGEffect, cGCertificate, cN, cGChecker, cL_cF] <;> fail)) | (simp; omega)))
    · replace h := erM_no h; refine awp_region ?_; intro _; refine dr_XDChk ?_; refine awp_cond ?_; intro _; refine litT ?_; refine awp_seq ?_; refine awp_region ?_; intro _; refine dr_XDChk ?_; refine awp_ret ?_; intro _; obtain ⟨rfl, rfl⟩ := inj2 h; all_goals (refine Exists.intro [] (And.intro rfl (And.intro ?_ ?_))); all_goals (repeat (first | exact True.intro | exact gb_nil rfl rfl | refine gb_some ⟨rfl, rfl, rfl⟩ ?_ | refine And.intro ?_ ?_ | refine gw_ren rfl rfl rfl rfl rfl ?_ | refine gw_pren rfl rfl rfl rfl rfl | exact gw_thaw rfl rfl rfl | refine gw_tup ?_ | exact GWL.nil | exact gwll_nil | exact gw_c | exact GW.sl | exact GW.nil | exact gwll_same rfl FrI.h | refine GWL.cons ?_ ?_ | refine gwll_cons ?_ ?_ | (refine gw_own3 rfl rfl rfl FrI.h ?_ ?_ ?_) | exact GW.fr FrV.h | exact GW.fr (by assumption) | refine gw_agg ?_ | refine gw_clo ?_ | refine gw_ptr rfl rfl rfl ?_ | (refine gw_own rfl rfl rfl ?_ FrI.h ?_ ?_) | assumption | omega | rfl | (rw [List.length_map, ← List.length_append]; assumption) | (refine gwll_same ?_ FrI.h; (simp [cGTask, cI, cF, cGOp, cGEffect, cGCertificate, cN, cGChecker, cL_cF] <;> fail)) | (rw [List.map_set]; refine gwll_set (by first | rfl | omega | simp) ?_ ?_) | refine gwll_set (by first | rfl | omega | simp) ?_ ?_ | (rw [List.map_replicate]; refine gwll_rep ?_) | refine gwll_rep ?_ | (rw [List.map_append]; refine gwll_append ?_ ?_) | refine gwll_append ?_ ?_ | (simp [cGTask, cI, cF, cGOp, cGEffect, cGCertificate, cN, cGChecker, cL_cF, take_len_map] <;> fail) | (rw [List.drop_zero, List.take_of_length_le] <;> first | rfl | (simp [cGTask, cI, cF, cGOp, cGEffect, cGCertificate, cN, cGChecker, cL_cF] <;> fail)) | (simp; omega)))
def M_checker_Where_L1 (a0 : GTask) (a1 : GCertificate) : Nat → Int → Option (Unit ⊕ (Int × Int × Er))
  | 0, _ => none
  | k24 + 1, v23 =>
    sel (decide (v23 < ((a1.Nogoods.map cN).length : Int)))
     (ix a1.Nogoods v23 (fun y25 =>
       ob1 (M_task_Holds y25.1 a0.Init) (fun z26 =>
        sel z26
         (some (.inr ((-1), (-1), (Er.no 20))))
         (M_checker_Where_L1 a0 a1 k24 (IntKind.i64.wrap (v23 + 1))))))
     (some (.inl ()))
def M_checker_Where_L2 (a0 : GTask) (g : Nat) (v184 : Int) (y231 : Nogood) : Nat → Int → (List Int) → (List Int) → (List Fact) → (List GOp) → Int → (List Nogood) → Int → Option (((List Int) × (List Int) × (List Fact) × (List GOp) × Int × (List Nogood) × Int) ⊕ (Int × Int × Er))
  | 0, _, _, _, _, _, _, _, _ => none
  | k254 + 1, v246, v247, v248, v249, v250, v251, v252, v253 =>
    sel (decide (v246 < ((a0.Ops.map cGOp).length : Int)))
     (ob2 (M_stratagem_checker_checker_step g ({ t := { Vars := v247, Init := v248, Goal := v249, Ops := v250 : GTask }, c := { Bound := v251, Nogoods := v252 : GCertificate }, steps := v253 : GChecker }) y231 v246) (fun z255 c256 =>
       erM z255
        (M_checker_Where_L2 a0 g v184 y231 k254 (IntKind.i64.wrap (v246 + 1)) c256.t.Vars c256.t.Init c256.t.Goal c256.t.Ops c256.c.Bound c256.c.Nogoods c256.steps)
        (fun e257 => some (.inr (v184, v246, (Er.no e257))))))
     (some (.inl (v247, v248, v249, v250, v251, v252, v253)))
def M_checker_Where_L3 (a0 : GTask) (a1 : GCertificate) (g : Nat) : Nat → Int → (List Int) → (List Int) → (List Fact) → (List GOp) → Int → (List Nogood) → Int → Option (Int × Int × Er)
  | 0, _, _, _, _, _, _, _, _ => none
  | k192 + 1, v184, v185, v186, v187, v188, v189, v190, v191 =>
    sel (decide (v184 < ((a1.Nogoods.map cN).length : Int)))
     (ob1 (ix a1.Nogoods v184 (fun y231 =>
        M_checker_Where_L2 a0 g v184 y231 ((((a0.Ops.map cGOp).length : Int)).toNat + 1) 0 v185 v186 v187 v188 v189 v190 v191) : Option (((List Int) × (List Int) × (List Fact) × (List GOp) × Int × (List Nogood) × Int) ⊕ (Int × Int × Er)))
       (osum
       (fun (v220, v221, v222, v223, v224, v225, v226) => M_checker_Where_L3 a0 a1 g k192 (IntKind.i64.wrap (v184 + 1)) v220 v221 v222 v223 v224 v225 v226)
       (fun (r227, r228, r229) => some (r227, r228, r229))))
     (some ((-1), (-1), Er.nil))
def M_checker_Where (g : Nat) (a0 : GTask) (a1 : GCertificate) (a2 : Int) : Option (Int × Int × Er) :=
  ob1 (M_task_Check a0) (fun z1 =>
   erM z1
    (ob1 (M_certificate_Proper a0.Vars a1) (fun z3 =>
      erM z3
       (ob1 (M_checker_Where_L1 a0 a1 ((((a1.Nogoods.map cN).length : Int)).toNat + 1) 0 : Option (Unit ⊕ (Int × Int × Er)))
         (osum
         (fun _ => ob1 (sel (a1.Bound != 0)
             (ob3 (M_stratagem_checker_checker_covered g ({ t := a0, c := a1, steps := (max 0 (min a2 1048576)) : GChecker }) a0.Goal 0) (fun z42 z43 c44 =>
               erM z43
                (sel (!z42)
                  (some (.inr ((-1), (-1), (Er.no 13))))
                  (some (.inl (c44.t.Vars, c44.t.Init, c44.t.Goal, c44.t.Ops, c44.c.Bound, c44.c.Nogoods, c44.steps))))
                (fun e45 => some (.inr ((-1), (-1), (Er.no e45))))))
             (some (.inl (a0.Vars, a0.Init, a0.Goal, a0.Ops, a1.Bound, a1.Nogoods, (max 0 (min a2 1048576))))) : Option (((List Int) × (List Int) × (List Fact) × (List GOp) × Int × (List Nogood) × Int) ⊕ (Int × Int × Er)))
            (osum
            (fun (v31, v32, v33, v34, v35, v36, v37) => M_checker_Where_L3 a0 a1 g ((((a1.Nogoods.map cN).length : Int)).toNat + 1) 0 v31 v32 v33 v34 v35 v36 v37)
            (fun (r38, r39, r40) => some (r38, r39, r40))))
         (fun (r14, r15, r16) => some (r14, r15, r16))))
       (fun e4 => some ((-1), (-1), (Er.no e4)))))
    (fun e2 => some ((-1), (-1), (Er.no e2))))
set_option maxHeartbeats 16000000 in
set_option maxRecDepth 100000 in
theorem A_checker_Where (g : Nat) (a0 : GTask) (a1 : GCertificate) (a2 : Int) {r1 : Int} {r2 : Int} {r3 : Er} (h : M_checker_Where g a0 a1 a2 = some (r1, r2, r3)) : ACall cx 14 [.agg [.sl 1 (a0.Vars.map cI), .sl 1 (a0.Init.map cI), .sl 2 (a0.Goal.map cF), .sl 4 (a0.Ops.map cGOp)], .agg [.c (.int .i64 a1.Bound), .sl 2 (a1.Nogoods.map cN)], .c (.int .i64 a2)] (.tup [.c (.int .i64 r1), .c (.int .i64 r2), eA r3]) := by
  refine acall_of Tryz.func14 rfl (by decide) rfl (Nat.le_of_ble_eq_true rfl) ?_; intro _; unfold M_checker_Where at h; refine awp_seq ?_; refine awp_region ?_; intro _; refine dr_XDChk ?_; refine awp_seq ?_; refine awp_seq ?_; refine awp_region ?_; intro _; obtain ⟨z1, u1, h⟩ := ob1_ok h; refine cl_XDChk rfl (A_task_Check a0 u1) ?_; intro _; refine dr_XDChk ?_; refine awp_seq ?_; rcases z1 with _ | e2
  · replace h := erM_nil h; refine awp_region ?_; intro _; refine dr_XDChk ?_; refine awp_cond ?_; intro _; refine litF ?_; refine awp_skip ?_; refine awp_seq ?_; refine awp_seq ?_; refine awp_region ?_; intro _; obtain ⟨z3, u2, h⟩ := ob1_ok h; refine cl_XDChk rfl (A_certificate_Proper a0.Vars a1 u2) ?_; intro _; refine dr_XDChk ?_; refine awp_seq ?_; rcases z3 with _ | e4
    · replace h := erM_nil h; refine awp_region ?_; intro _; refine dr_XDChk ?_; refine awp_cond ?_; intro _; refine litF ?_; refine awp_skip ?_; obtain ⟨o3, h, hK4⟩ := ob1_ok h; refine awp_cut (α := Unit) (fun _ => mkS 94 [(2, .c (.int .i64 a2)), (3, .ptr 3 0 0 0), (4, .ptr 4 0 0 0)] [(3, ⟨26, 4, true, [[.sl 1 (a0.Vars.map cI), .sl 1 (a0.Init.map cI), .sl 2 (a0.Goal.map cF), .sl 4 (a0.Ops.map cGOp)]]⟩), (4, ⟨29, 2, true, [[.c (.int .i64 a1.Bound), .sl 2 (a1.Nogoods.map cN)]]⟩)]) (fun v => o3 = (.inl v)) ?_ ?_
      · refine awp_seq ?_; refine awp_region ?_; intro _; refine dr_XDChk ?_; refine awp_block ?_; refine awp_loop (α := Nat × Int) (fun x => mkS 94 [(2, .c (.int .i64 a2)), (3, .ptr 3 0 0 0), (4, .ptr 4 0 0 0), (33, .sl 2 (a1.Nogoods.map cN)), (34, .c (.int .i64 ((a1.Nogoods.map cN).length : Int))), (35, .c (.int .i64 x.2))] [(3, ⟨26, 4, true, [[.sl 1 (a0.Vars.map cI), .sl 1 (a0.Init.map cI), .sl 2 (a0.Goal.map cF), .sl 4 (a0.Ops.map cGOp)]]⟩), (4, ⟨29, 2, true, [[.c (.int .i64 a1.Bound), .sl 2 (a1.Nogoods.map cN)]]⟩)]) (fun x => M_checker_Where_L1 a0 a1 x.1 x.2 = some o3) (fun x => x.1) ((((a1.Nogoods.map cN).length : Int)).toNat + 1, 0) h ?_ ?_
        · repeat (first | exact True.intro | refine ci_XDChk ?_)
        · intro x5 h; intro _; obtain ⟨k24, m6, h⟩ := succ_of (f := fun n => M_checker_Where_L1 a0 a1 n x5.2) rfl h; replace h : M_checker_Where_L1 a0 a1 (k24 + 1) x5.2 = some o3 := h; rw [M_checker_Where_L1] at h; refine awp_seq ?_; refine awp_region ?_; intro _; refine dr_XDChk ?_; refine awp_seq ?_; refine awp_cond ?_; intro _; refine spl h (fun c7 h => ?_) (fun c7 h => ?_)
          · refine awp_skip ?_; refine awp_seq ?_; refine awp_block ?_; refine awp_seq ?_; refine awp_region ?_; intro _; obtain ⟨y25, w8, q9, h⟩ := ix_ok h; refine Exists.intro (cN y25) (And.intro (map_at' w8) ?_); intro _; refine pr_XDChk ?_; refine dr_XDChk ?_; refine awp_seq ?_; refine awp_region ?_; intro _; obtain ⟨z26, u10, h⟩ := ob1_ok h; refine cl_XDChk rfl (A_task_Holds y25.1 a0.Init u10) ?_; intro _; refine dr_XDChk ?_; refine awp_cond ?_; intro _; refine spl h (fun c11 h => ?_) (fun c11 h => ?_)
            · refine awp_seq ?_; refine awp_region ?_; intro _; refine dr_XDChk ?_; refine awp_ret ?_; have j12 := Option.some.inj h; subst j12; replace h := (osum_r hK4); intro _; obtain ⟨rfl, rfl, rfl⟩ := inj3 h; repeat (first | exact True.intro | refine ci_XDChk ?_)
            · refine awp_skip ?_; refine awp_region ?_; intro _; refine dr_XDChk ?_; refine ⟨(k24, (IntKind.i64.wrap (x5.2 + 1))), h, lt_of_succ m6, ?_⟩; repeat (first | exact True.intro | refine ci_XDChk ?_)
          · refine awp_exit ?_; refine ⟨(), (Option.some.inj h).symm, ?_⟩; repeat (first | exact True.intro | refine ci_XDChk ?_)
      · rintro _ ho; have ho := ho.symm; subst ho; intro _; replace h := (osum_l hK4); refine awp_seq ?_; refine awp_region ?_; intro _; refine ⟨_, lf_min rfl (Nat.le_of_ble_eq_true rfl) rfl rfl, ?_⟩; intro _; refine ⟨_, lf_max rfl (Nat.le_of_ble_eq_true rfl) rfl rfl, ?_⟩; intro _; refine dr_XDChk ?_; obtain ⟨o13, h, hK14⟩ := ob1_ok h; refine awp_cut (α := (List Int) × (List Int) × (List Fact) × (List GOp) × Int × (List Nogood) × Int) (fun (v31, v32, v33, v34, v35, v36, v37) => mkS 94 [(3, .ptr 3 0 0 0), (4, .ptr 4 0 0 0), (13, .ptr 52 0 0 0)] [(3, ⟨26, 4, true, [[.sl 1 (a0.Vars.map cI), .sl 1 (a0.Init.map cI), .sl 2 (a0.Goal.map cF), .sl 4 (a0.Ops.map cGOp)]]⟩), (4, ⟨29, 2, true, [[.c (.int .i64 a1.Bound), .sl 2 (a1.Nogoods.map cN)]]⟩), (52, ⟨73, 7, true, [[.sl 1 (v31.map cI), .sl 1 (v32.map cI), .sl 2 (v33.map cF), .sl 4 (v34.map cGOp), .c (.int .i64 v35), .sl 2 (v36.map cN), .c (.int .i64 v37)]]⟩)]) (fun v => o13 = (.inl v)) ?_ ?_
        · refine awp_seq ?_; refine awp_region ?_; intro _; refine dr_XDChk ?_; refine awp_cond ?_; intro _; refine spl h (fun c15 h => ?_) (fun c15 h => ?_)
          · refine awp_seq ?_; refine awp_region ?_; intro _; obtain ⟨z42, z43, c44, u16, h⟩ := ob3_ok h; refine clg_XDChk [(41, 52)] [] [] [(52, ⟨1, some ⟨73, 7, true, [[.sl 1 (c44.t.Vars.map cI), .sl 1 (c44.t.Init.map cI), .sl 2 (c44.t.Goal.map cF), .sl 4 (c44.t.Ops.map cGOp), .c (.int .i64 c44.c.Bound), .sl 2 (c44.c.Nogoods.map cN), .c (.int .i64 c44.steps)]]⟩⟩)] (.tup [.c (.bool z42), eA z43]) rfl rfl (A_stratagem_checker_checker_covered g ({ t := a0, c := a1, steps := (max 0 (min a2 1048576)) : GChecker }) a0.Goal 0 u16) ?_; intro _; refine dr_XDChk ?_; refine awp_seq ?_; refine awp_seq ?_; rcases z43 with _ | e45
            · replace h := erM_nil h; refine awp_region ?_; intro _; refine dr_XDChk ?_; refine awp_cond ?_; intro _; refine litF ?_; refine awp_skip ?_; refine awp_seq ?_; refine awp_region ?_; intro _; refine dr_XDChk ?_; refine awp_cond ?_; intro _; refine spl h (fun c17 h => ?_) (fun c17 h => ?_)
              · refine awp_seq ?_; refine awp_region ?_; intro _; refine dr_XDChk ?_; refine awp_ret ?_; have j18 := Option.some.inj h; subst j18; replace h := (osum_r hK14); intro _; obtain ⟨rfl, rfl, rfl⟩ := inj3 h; repeat (first | exact True.intro | refine ci_XDChk ?_)
              · refine awp_skip ?_; refine ⟨(c44.t.Vars, c44.t.Init, c44.t.Goal, c44.t.Ops, c44.c.Bound, c44.c.Nogoods, c44.steps), (Option.some.inj h).symm, ?_⟩; repeat (first | exact True.intro | refine ci_XDChk ?_)
            · replace h := erM_no h; refine awp_region ?_; intro _; refine dr_XDChk ?_; refine awp_cond ?_; intro _; refine litT ?_; refine awp_seq ?_; refine awp_region ?_; intro _; refine dr_XDChk ?_; refine awp_ret ?_; have j19 := Option.some.inj h; subst j19; replace h := (osum_r hK14); intro _; obtain ⟨rfl, rfl, rfl⟩ := inj3 h; repeat (first | exact True.intro | refine ci_XDChk ?_)
          · refine awp_skip ?_; refine ⟨(a0.Vars, a0.Init, a0.Goal, a0.Ops, a1.Bound, a1.Nogoods, (max 0 (min a2 1048576))), (Option.some.inj h).symm, ?_⟩; repeat (first | exact True.intro | refine ci_XDChk ?_)
        · rintro ⟨v31, v32, v33, v34, v35, v36, v37⟩ ho; have ho := ho.symm; subst ho; intro _; replace h := (osum_l hK14); refine awp_seq ?_; refine awp_seq ?_; refine awp_region ?_; intro _; refine dr_XDChk ?_; refine awp_block ?_; refine awp_loop (α := Nat × Int × (List Int) × (List Int) × (List Fact) × (List GOp) × Int × (List Nogood) × Int) (fun x => mkS 94 [(3, .ptr 3 0 0 0), (13, .ptr 52 0 0 0), (70, .sl 2 (a1.Nogoods.map cN)), (71, .c (.int .i64 ((a1.Nogoods.map cN).length : Int))), (72, .c (.int .i64 x.2.1))] [(3, ⟨26, 4, true, [[.sl 1 (a0.Vars.map cI), .sl 1 (a0.Init.map cI), .sl 2 (a0.Goal.map cF), .sl 4 (a0.Ops.map cGOp)]]⟩), (52, ⟨73, 7, true, [[.sl 1 (x.2.2.1.map cI), .sl 1 (x.2.2.2.1.map cI), .sl 2 (x.2.2.2.2.1.map cF), .sl 4 (x.2.2.2.2.2.1.map cGOp), .c (.int .i64 x.2.2.2.2.2.2.1), .sl 2 (x.2.2.2.2.2.2.2.1.map cN), .c (.int .i64 x.2.2.2.2.2.2.2.2)]]⟩)]) (fun x => M_checker_Where_L3 a0 a1 g x.1 x.2.1 x.2.2.1 x.2.2.2.1 x.2.2.2.2.1 x.2.2.2.2.2.1 x.2.2.2.2.2.2.1 x.2.2.2.2.2.2.2.1 x.2.2.2.2.2.2.2.2 = some (r1, r2, r3)) (fun x => x.1) ((((a1.Nogoods.map cN).length : Int)).toNat + 1, 0, v31, v32, v33, v34, v35, v36, v37) h ?_ ?_
          · repeat (first | exact True.intro | refine ci_XDChk ?_)
          · intro x20 h; intro _; obtain ⟨k192, m21, h⟩ := succ_of (f := fun n => M_checker_Where_L3 a0 a1 g n x20.2.1 x20.2.2.1 x20.2.2.2.1 x20.2.2.2.2.1 x20.2.2.2.2.2.1 x20.2.2.2.2.2.2.1 x20.2.2.2.2.2.2.2.1 x20.2.2.2.2.2.2.2.2) rfl h; replace h : M_checker_Where_L3 a0 a1 g (k192 + 1) x20.2.1 x20.2.2.1 x20.2.2.2.1 x20.2.2.2.2.1 x20.2.2.2.2.2.1 x20.2.2.2.2.2.2.1 x20.2.2.2.2.2.2.2.1 x20.2.2.2.2.2.2.2.2 = some (r1, r2, r3) := h; rw [M_checker_Where_L3] at h; refine awp_seq ?_; refine awp_region ?_; intro _; refine dr_XDChk ?_; refine awp_seq ?_; refine awp_cond ?_; intro _; refine spl h (fun c22 h => ?_) (fun c22 h => ?_)
            · refine awp_skip ?_; obtain ⟨o23, h, hK24⟩ := ob1_ok h; refine awp_cut (α := (List Int) × (List Int) × (List Fact) × (List GOp) × Int × (List Nogood) × Int) (fun (v220, v221, v222, v223, v224, v225, v226) => mkS 94 [(3, .ptr 3 0 0 0), (13, .ptr 52 0 0 0), (70, .sl 2 (a1.Nogoods.map cN)), (71, .c (.int .i64 ((a1.Nogoods.map cN).length : Int))), (72, .c (.int .i64 x20.2.1))] [(3, ⟨26, 4, true, [[.sl 1 (a0.Vars.map cI), .sl 1 (a0.Init.map cI), .sl 2 (a0.Goal.map cF), .sl 4 (a0.Ops.map cGOp)]]⟩), (52, ⟨73, 7, true, [[.sl 1 (v220.map cI), .sl 1 (v221.map cI), .sl 2 (v222.map cF), .sl 4 (v223.map cGOp), .c (.int .i64 v224), .sl 2 (v225.map cN), .c (.int .i64 v226)]]⟩)]) (fun v => o23 = (.inl v)) ?_ ?_
              · refine awp_block ?_; refine awp_seq ?_; refine awp_region ?_; intro _; obtain ⟨y231, w25, q26, h⟩ := ix_ok h; refine Exists.intro (cN y231) (And.intro (map_at' w25) ?_); intro _; refine pr_XDChk ?_; refine dr_XDChk ?_; refine awp_seq ?_; refine awp_region ?_; intro _; refine dr_XDChk ?_; refine awp_block ?_; refine awp_loop (α := Nat × Int × (List Int) × (List Int) × (List Fact) × (List GOp) × Int × (List Nogood) × Int) (fun x => mkS 94 [(3, .ptr 3 0 0 0), (13, .ptr 52 0 0 0), (16, .c (.int .i64 x20.2.1)), (17, .ptr 17 0 0 0), (70, .sl 2 (a1.Nogoods.map cN)), (71, .c (.int .i64 ((a1.Nogoods.map cN).length : Int))), (72, .c (.int .i64 x20.2.1)), (79, .c (.int .i64 ((a0.Ops.map cGOp).length : Int))), (80, .c (.int .i64 x.2.1))] [(3, ⟨26, 4, true, [[.sl 1 (a0.Vars.map cI), .sl 1 (a0.Init.map cI), .sl 2 (a0.Goal.map cF), .sl 4 (a0.Ops.map cGOp)]]⟩), (17, ⟨51, 2, true, [[.sl 2 (y231.1.map cF), .c (.int .i64 y231.2)]]⟩), (52, ⟨73, 7, true, [[.sl 1 (x.2.2.1.map cI), .sl 1 (x.2.2.2.1.map cI), .sl 2 (x.2.2.2.2.1.map cF), .sl 4 (x.2.2.2.2.2.1.map cGOp), .c (.int .i64 x.2.2.2.2.2.2.1), .sl 2 (x.2.2.2.2.2.2.2.1.map cN), .c (.int .i64 x.2.2.2.2.2.2.2.2)]]⟩)]) (fun x => M_checker_Where_L2 a0 g x20.2.1 y231 x.1 x.2.1 x.2.2.1 x.2.2.2.1 x.2.2.2.2.1 x.2.2.2.2.2.1 x.2.2.2.2.2.2.1 x.2.2.2.2.2.2.2.1 x.2.2.2.2.2.2.2.2 = some o23) (fun x => x.1) ((((a0.Ops.map cGOp).length : Int)).toNat + 1, 0, x20.2.2.1, x20.2.2.2.1, x20.2.2.2.2.1, x20.2.2.2.2.2.1, x20.2.2.2.2.2.2.1, x20.2.2.2.2.2.2.2.1, x20.2.2.2.2.2.2.2.2) h ?_ ?_
                · repeat (first | exact True.intro | refine ci_XDChk ?_)
                · intro x27 h; intro _; obtain ⟨k254, m28, h⟩ := succ_of (f := fun n => M_checker_Where_L2 a0 g x20.2.1 y231 n x27.2.1 x27.2.2.1 x27.2.2.2.1 x27.2.2.2.2.1 x27.2.2.2.2.2.1 x27.2.2.2.2.2.2.1 x27.2.2.2.2.2.2.2.1 x27.2.2.2.2.2.2.2.2) rfl h; replace h : M_checker_Where_L2 a0 g x20.2.1 y231 (k254 + 1) x27.2.1 x27.2.2.1 x27.2.2.2.1 x27.2.2.2.2.1 x27.2.2.2.2.2.1 x27.2.2.2.2.2.2.1 x27.2.2.2.2.2.2.2.1 x27.2.2.2.2.2.2.2.2 = some o23 := h; rw [M_checker_Where_L2] at h; refine awp_seq ?_; refine awp_region ?_; intro _; refine dr_XDChk ?_; refine awp_seq ?_; refine awp_cond ?_; intro _; refine spl h (fun c29 h => ?_) (fun c29 h => ?_)
                  · refine awp_skip ?_; refine awp_seq ?_; refine awp_block ?_; refine awp_seq ?_; refine awp_region ?_; intro _; refine dr_XDChk ?_; refine awp_seq ?_; refine awp_region ?_; intro _; obtain ⟨z255, c256, u30, h⟩ := ob2_ok h; refine clg_XDChk [(73, 52)] [] [] [(52, ⟨0, some ⟨73, 7, true, [[.sl 1 (c256.t.Vars.map cI), .sl 1 (c256.t.Init.map cI), .sl 2 (c256.t.Goal.map cF), .sl 4 (c256.t.Ops.map cGOp), .c (.int .i64 c256.c.Bound), .sl 2 (c256.c.Nogoods.map cN), .c (.int .i64 c256.steps)]]⟩⟩)] (eA z255) rfl rfl (A_stratagem_checker_checker_step g ({ t := { Vars := x27.2.2.1, Init := x27.2.2.2.1, Goal := x27.2.2.2.2.1, Ops := x27.2.2.2.2.2.1 : GTask }, c := { Bound := x27.2.2.2.2.2.2.1, Nogoods := x27.2.2.2.2.2.2.2.1 : GCertificate }, steps := x27.2.2.2.2.2.2.2.2 : GChecker }) y231 x27.2.1 u30) ?_; intro _; refine dr_XDChk ?_; refine awp_seq ?_; rcases z255 with _ | e257
                    · replace h := erM_nil h; refine awp_region ?_; intro _; refine dr_XDChk ?_; refine awp_cond ?_; intro _; refine litF ?_; refine awp_skip ?_; refine awp_region ?_; intro _; refine dr_XDChk ?_; refine ⟨(k254, (IntKind.i64.wrap (x27.2.1 + 1)), c256.t.Vars, c256.t.Init, c256.t.Goal, c256.t.Ops, c256.c.Bound, c256.c.Nogoods, c256.steps), h, lt_of_succ m28, ?_⟩; repeat (first | exact True.intro | refine ci_XDChk ?_)
                    · replace h := erM_no h; refine awp_region ?_; intro _; refine dr_XDChk ?_; refine awp_cond ?_; intro _; refine litT ?_; refine awp_seq ?_; refine awp_region ?_; intro _; refine dr_XDChk ?_; refine awp_ret ?_; have j31 := Option.some.inj h; subst j31; replace h := (osum_r hK24); intro _; obtain ⟨rfl, rfl, rfl⟩ := inj3 h; repeat (first | exact True.intro | refine ci_XDChk ?_)
                  · refine awp_exit ?_; refine ⟨(x27.2.2.1, x27.2.2.2.1, x27.2.2.2.2.1, x27.2.2.2.2.2.1, x27.2.2.2.2.2.2.1, x27.2.2.2.2.2.2.2.1, x27.2.2.2.2.2.2.2.2), (Option.some.inj h).symm, ?_⟩; repeat (first | exact True.intro | refine ci_XDChk ?_)
              · rintro ⟨v220, v221, v222, v223, v224, v225, v226⟩ ho; have ho := ho.symm; subst ho; intro _; replace h := (osum_l hK24); refine awp_region ?_; intro _; refine dr_XDChk ?_; refine ⟨(k192, (IntKind.i64.wrap (x20.2.1 + 1)), v220, v221, v222, v223, v224, v225, v226), h, lt_of_succ m21, ?_⟩; repeat (first | exact True.intro | refine ci_XDChk ?_)
            · refine awp_exit ?_; refine awp_seq ?_; refine awp_region ?_; intro _; refine dr_XDChk ?_; refine awp_ret ?_; intro _; obtain ⟨rfl, rfl, rfl⟩ := inj3 h; repeat (first | exact True.intro | refine ci_XDChk ?_)
    · replace h := erM_no h; refine awp_region ?_; intro _; refine dr_XDChk ?_; refine awp_cond ?_; intro _; refine litT ?_; refine awp_seq ?_; refine awp_region ?_; intro _; refine dr_XDChk ?_; refine awp_ret ?_; intro _; obtain ⟨rfl, rfl, rfl⟩ := inj3 h; repeat (first | exact True.intro | refine ci_XDChk ?_)
  · replace h := erM_no h; refine awp_region ?_; intro _; refine dr_XDChk ?_; refine awp_cond ?_; intro _; refine litT ?_; refine awp_seq ?_; refine awp_region ?_; intro _; refine dr_XDChk ?_; refine awp_ret ?_; intro _; obtain ⟨rfl, rfl, rfl⟩ := inj3 h; repeat (first | exact True.intro | refine ci_XDChk ?_)
def M_checker_Verify (g : Nat) (a0 : GTask) (a1 : GCertificate) (a2 : Int) : Option (Er) :=
  ob3 (M_checker_Where g a0 a1 a2) (fun _ _ z3 =>
   some z3)
set_option maxHeartbeats 16000000 in
set_option maxRecDepth 100000 in
theorem A_checker_Verify (g : Nat) (a0 : GTask) (a1 : GCertificate) (a2 : Int) {r1 : Er} (h : M_checker_Verify g a0 a1 a2 = some r1) : ACall cx 16 [.agg [.sl 1 (a0.Vars.map cI), .sl 1 (a0.Init.map cI), .sl 2 (a0.Goal.map cF), .sl 4 (a0.Ops.map cGOp)], .agg [.c (.int .i64 a1.Bound), .sl 2 (a1.Nogoods.map cN)], .c (.int .i64 a2)] (eA r1) := by
  refine acall_of Tryz.func16 rfl (by decide) rfl (Nat.le_of_ble_eq_true rfl) ?_; intro _; unfold M_checker_Verify at h; refine awp_seq ?_; refine awp_region ?_; intro _; refine dr_XDChk ?_; refine awp_seq ?_; refine awp_region ?_; intro _; obtain ⟨z1, z2, z3, u1, h⟩ := ob3_ok h; refine cl_XDChk rfl (A_checker_Where g a0 a1 a2 u1) ?_; intro _; refine dr_XDChk ?_; refine awp_seq ?_; refine awp_region ?_; intro _; refine dr_XDChk ?_; refine awp_ret ?_; intro _; obtain rfl := inj1 h; all_goals (cases z3); all_goals repeat (first | exact True.intro | refine ci_XDChk ?_)
def M_stratagemlaw31_awake (g : Nat) : Option (Bool) :=
  ob1 (M_checker_Verify g ({ Vars := [2], Init := [0], Goal := [(0, 1)], Ops := [] : GTask }) ({ Bound := (-1), Nogoods := [([(0, 1)], 0)] : GCertificate }) 100) (fun z1 =>
   erM z1
    (ob1 (M_checker_Verify g ({ Vars := [2], Init := [0], Goal := [(0, 1)], Ops := [] : GTask }) ({ Bound := (-1), Nogoods := [] : GCertificate }) 100) (fun z3 =>
      ob1 (M_stratagembase_Is z3 13) (fun z4 =>
       some z4)))
    (fun _ => some false))
set_option maxHeartbeats 16000000 in
set_option maxRecDepth 100000 in
theorem A_stratagemlaw31_awake (g : Nat) {r1 : Bool} (h : M_stratagemlaw31_awake g = some r1) : ACall cx 12 [] (.c (.bool r1)) := by
  refine acall_of Tryz.func12 rfl (by decide) rfl (Nat.le_of_ble_eq_true rfl) ?_; intro _; unfold M_stratagemlaw31_awake at h; refine awp_seq ?_; refine awp_region ?_; intro _; refine dr_XDChk ?_; refine awp_seq ?_; refine awp_region ?_; intro _; refine dr_XDChk ?_; refine awp_seq ?_; refine awp_region ?_; intro _; refine dr_XDChk ?_; refine awp_seq ?_; refine awp_region ?_; intro _; obtain ⟨z1, u1, h⟩ := ob1_ok h; refine clb_XDChk [3, 4, 6, 11] rfl rfl (A_checker_Verify g ({ Vars := [2], Init := [0], Goal := [(0, 1)], Ops := [] : GTask }) ({ Bound := (-1), Nogoods := [([(0, 1)], 0)] : GCertificate }) 100 u1) ?_; rcases z1 with _ | e2
  · replace h := erM_nil h; intro _; refine litT ?_; intro _; obtain ⟨z3, u2, h⟩ := ob1_ok h; refine clb_XDChk [3, 4, 6] rfl rfl (A_checker_Verify g ({ Vars := [2], Init := [0], Goal := [(0, 1)], Ops := [] : GTask }) ({ Bound := (-1), Nogoods := [] : GCertificate }) 100 u2) ?_; intro _; obtain ⟨z4, u3, h⟩ := ob1_ok h; refine cl_XDChk rfl (A_stratagembase_Is z3 13 u3) ?_; intro _; refine dr_XDChk ?_; refine awp_ret ?_; intro _; obtain rfl := inj1 h; repeat (first | exact True.intro | refine ci_XDChk ?_)
  · replace h := erM_no h; intro _; refine litF ?_; intro _; refine dr_XDChk ?_; refine awp_ret ?_; intro _; obtain rfl := inj1 h; repeat (first | exact True.intro | refine ci_XDChk ?_)
end Go.Proofs.YtcpajbglcgbolaaGreat.Am
/- Range loops of the models as recursions. -/
namespace Go.Proofs.YtcpajbglcgbolaaGreat.Am
def M_certificate_formed_L1_B (a0 : List Fact) (_y7 : Fact) (v5 : Int) : Unit → (Unit → Option (Bool)) → Option (Bool) := fun _ rc => ixv _y7 (fun y7 =>
       sel (decide (y7.1 < 0))
        (some false)
        (sel (decide (y7.1 ≥ 64))
          (some false)
          (sel (decide (y7.2 < 0))
            (some false)
            (sel (decide (y7.2 ≥ 64))
              (some false)
              (sel (decide (v5 > 0))
                (ix a0 (IntKind.i64.wrap (v5 - 1)) (fun y8 =>
                  sel (decide (y8.1 ≥ y7.1))
                   (some false)
                   (rc ())))
                (rc ()))))))
def M_certificate_formed_L1_E (_ : List Fact) : Unit → Option (Bool) := fun _ => some true
theorem M_certificate_formed_L1_rg (a0 : List Fact) (hl : a0.length < 9223372036854775807) : ∀ (k n : Nat) , n ≤ a0.length → a0.length < k + n → M_certificate_formed_L1 a0 k (n : Int) = Rg (M_certificate_formed_L1_B a0) (M_certificate_formed_L1_E a0) (a0.drop n) n () := by
  intro k n 
  refine rg_of (L := fun k i (p : Unit) => M_certificate_formed_L1 a0 k i) hl (fun k n p y hy hn => ?_) (fun k p => ?_) k n ()
  · have h1 := lt_some hy
    have h2 := w64s hn
    first | (simp only [M_certificate_formed_L1, M_certificate_formed_L1_B, List.length_map, decide_lt h1, sel, ix_at hy, ixv, h2]; done) | (simp only [List.length_map] at h1 hy; simp only [M_certificate_formed_L1, M_certificate_formed_L1_B, List.length_map, decide_lt h1, sel, ix_at hy, ixv, h2]; done)
  · simp only [M_certificate_formed_L1, M_certificate_formed_L1_E, List.length_map, decide_ge, sel]
theorem M_certificate_formed_L1_eq (a0 : List Fact)  (hl : a0.length < 9223372036854775807) : M_certificate_formed_L1 a0 (((a0.map cF).length : Int).toNat + 1) 0 = Rg (M_certificate_formed_L1_B a0) (M_certificate_formed_L1_E a0) a0 0 () := by
  have h := M_certificate_formed_L1_rg a0 hl (a0.length + 1) 0  (Nat.zero_le _) (by omega)
  rw [List.length_map, Int.toNat_natCast]
  exact h
def M_certificate_Check_L1_B (_ : GCertificate) (_y21 : Nogood) (_ : Int) : Unit → (Unit → Option (Unit ⊕ Er)) → Option (Unit ⊕ Er) := fun _ rc => ixv _y21 (fun y21 =>
       ob1 (M_certificate_formed y21.1) (fun z22 =>
        sel (!z22)
         (some (.inr (Er.no 2)))
         (rc ())))
def M_certificate_Check_L1_E (_ : GCertificate) : Unit → Option (Unit ⊕ Er) := fun _ => some (.inl ())
theorem M_certificate_Check_L1_rg (a0 : GCertificate) (hl : a0.Nogoods.length < 9223372036854775807) : ∀ (k n : Nat) , n ≤ a0.Nogoods.length → a0.Nogoods.length < k + n → M_certificate_Check_L1 a0 k (n : Int) = Rg (M_certificate_Check_L1_B a0) (M_certificate_Check_L1_E a0) (a0.Nogoods.drop n) n () := by
  intro k n 
  refine rg_of (L := fun k i (p : Unit) => M_certificate_Check_L1 a0 k i) hl (fun k n p y hy hn => ?_) (fun k p => ?_) k n ()
  · have h1 := lt_some hy
    have h2 := w64s hn
    first | (simp only [M_certificate_Check_L1, M_certificate_Check_L1_B, List.length_map, decide_lt h1, sel, ix_at hy, ixv, h2]; done) | (simp only [List.length_map] at h1 hy; simp only [M_certificate_Check_L1, M_certificate_Check_L1_B, List.length_map, decide_lt h1, sel, ix_at hy, ixv, h2]; done)
  · simp only [M_certificate_Check_L1, M_certificate_Check_L1_E, List.length_map, decide_ge, sel]
theorem M_certificate_Check_L1_eq (a0 : GCertificate)  (hl : a0.Nogoods.length < 9223372036854775807) : M_certificate_Check_L1 a0 (((a0.Nogoods.map cN).length : Int).toNat + 1) 0 = Rg (M_certificate_Check_L1_B a0) (M_certificate_Check_L1_E a0) a0.Nogoods 0 () := by
  have h := M_certificate_Check_L1_rg a0 hl (a0.Nogoods.length + 1) 0  (Nat.zero_le _) (by omega)
  rw [List.length_map, Int.toNat_natCast]
  exact h
def M_certificate_Check_L2_B (a0 : GCertificate) (_y28 : Nogood) (_ : Int) : Unit → (Unit → Option (Er)) → Option (Er) := fun _ rc => ixv _y28 (fun y28 =>
       sel (decide (y28.2 < 0))
        (some (Er.no 1))
        (sel (decide (a0.Bound ≥ 0))
          (sel (decide (y28.2 ≥ a0.Bound))
            (some (Er.no 1))
            (sel (decide (a0.Bound < 0))
              (sel (y28.2 != 0)
                (some (Er.no 1))
                (rc ()))
              (rc ())))
          (sel (decide (a0.Bound < 0))
            (sel (y28.2 != 0)
              (some (Er.no 1))
              (rc ()))
            (rc ()))))
def M_certificate_Check_L2_E (_ : GCertificate) : Unit → Option (Er) := fun _ => some Er.nil
theorem M_certificate_Check_L2_rg (a0 : GCertificate) (hl : a0.Nogoods.length < 9223372036854775807) : ∀ (k n : Nat) , n ≤ a0.Nogoods.length → a0.Nogoods.length < k + n → M_certificate_Check_L2 a0 k (n : Int) = Rg (M_certificate_Check_L2_B a0) (M_certificate_Check_L2_E a0) (a0.Nogoods.drop n) n () := by
  intro k n 
  refine rg_of (L := fun k i (p : Unit) => M_certificate_Check_L2 a0 k i) hl (fun k n p y hy hn => ?_) (fun k p => ?_) k n ()
  · have h1 := lt_some hy
    have h2 := w64s hn
    first | (simp only [M_certificate_Check_L2, M_certificate_Check_L2_B, List.length_map, decide_lt h1, sel, ix_at hy, ixv, h2]; done) | (simp only [List.length_map] at h1 hy; simp only [M_certificate_Check_L2, M_certificate_Check_L2_B, List.length_map, decide_lt h1, sel, ix_at hy, ixv, h2]; done)
  · simp only [M_certificate_Check_L2, M_certificate_Check_L2_E, List.length_map, decide_ge, sel]
theorem M_certificate_Check_L2_eq (a0 : GCertificate)  (hl : a0.Nogoods.length < 9223372036854775807) : M_certificate_Check_L2 a0 (((a0.Nogoods.map cN).length : Int).toNat + 1) 0 = Rg (M_certificate_Check_L2_B a0) (M_certificate_Check_L2_E a0) a0.Nogoods 0 () := by
  have h := M_certificate_Check_L2_rg a0 hl (a0.Nogoods.length + 1) 0  (Nat.zero_le _) (by omega)
  rw [List.length_map, Int.toNat_natCast]
  exact h
def M_certificate_Proper_L1_B (a0 : List Int) (_ : GCertificate) (_y10 : Nogood) (_ : Int) : Unit → (Unit → Option (Er)) → Option (Er) := fun _ rc => ixv _y10 (fun y10 =>
       ob1 (M_task_Facts a0 y10.1) (fun z11 =>
        sel (!z11)
         (some (Er.no 2))
         (rc ())))
def M_certificate_Proper_L1_E (_ : List Int) (_ : GCertificate) : Unit → Option (Er) := fun _ => some Er.nil
theorem M_certificate_Proper_L1_rg (a0 : List Int) (a1 : GCertificate) (hl : a1.Nogoods.length < 9223372036854775807) : ∀ (k n : Nat) , n ≤ a1.Nogoods.length → a1.Nogoods.length < k + n → M_certificate_Proper_L1 a0 a1 k (n : Int) = Rg (M_certificate_Proper_L1_B a0 a1) (M_certificate_Proper_L1_E a0 a1) (a1.Nogoods.drop n) n () := by
  intro k n 
  refine rg_of (L := fun k i (p : Unit) => M_certificate_Proper_L1 a0 a1 k i) hl (fun k n p y hy hn => ?_) (fun k p => ?_) k n ()
  · have h1 := lt_some hy
    have h2 := w64s hn
    first | (simp only [M_certificate_Proper_L1, M_certificate_Proper_L1_B, List.length_map, decide_lt h1, sel, ix_at hy, ixv, h2]; done) | (simp only [List.length_map] at h1 hy; simp only [M_certificate_Proper_L1, M_certificate_Proper_L1_B, List.length_map, decide_lt h1, sel, ix_at hy, ixv, h2]; done)
  · simp only [M_certificate_Proper_L1, M_certificate_Proper_L1_E, List.length_map, decide_ge, sel]
theorem M_certificate_Proper_L1_eq (a0 : List Int) (a1 : GCertificate)  (hl : a1.Nogoods.length < 9223372036854775807) : M_certificate_Proper_L1 a0 a1 (((a1.Nogoods.map cN).length : Int).toNat + 1) 0 = Rg (M_certificate_Proper_L1_B a0 a1) (M_certificate_Proper_L1_E a0 a1) a1.Nogoods 0 () := by
  have h := M_certificate_Proper_L1_rg a0 a1 hl (a1.Nogoods.length + 1) 0  (Nat.zero_le _) (by omega)
  rw [List.length_map, Int.toNat_natCast]
  exact h
def M_stratagem_checker_checker_counting_L1_B (_ : GChecker) (a1 : Int) (_y8 : Nogood) (_ : Int) : ((List (List Fact))) → (((List (List Fact))) → Option (List (List Fact))) → Option (List (List Fact)) := fun v6 rc => ixv _y8 (fun y8 =>
       sel (decide (y8.2 ≤ a1))
        (grd ((v6.length + 1) * 24 ≤ 140737488355328) (rc ((v6 ++ [y8.1]))))
        (rc (v6)))
def M_stratagem_checker_checker_counting_L1_E (_ : GChecker) (_ : Int) : ((List (List Fact))) → Option (List (List Fact)) := fun v6 => grd (v6.length ≤ 140737488355328) (some v6)
theorem M_stratagem_checker_checker_counting_L1_rg (a0 : GChecker) (a1 : Int) (hl : a0.c.Nogoods.length < 9223372036854775807) : ∀ (k n : Nat) (v6 : List (List Fact)), n ≤ a0.c.Nogoods.length → a0.c.Nogoods.length < k + n → M_stratagem_checker_checker_counting_L1 a0 a1 k (n : Int) v6 = Rg (M_stratagem_checker_checker_counting_L1_B a0 a1) (M_stratagem_checker_checker_counting_L1_E a0 a1) (a0.c.Nogoods.drop n) n v6 := by
  intro k n v6
  refine rg_of (L := fun k i (p : ((List (List Fact)))) => match p with | v6 => M_stratagem_checker_checker_counting_L1 a0 a1 k i v6) hl (fun k n p y hy hn => ?_) (fun k p => ?_) k n v6
  · have h1 := lt_some hy
    have h2 := w64s hn
    first | (simp only [M_stratagem_checker_checker_counting_L1, M_stratagem_checker_checker_counting_L1_B, List.length_map, decide_lt h1, sel, ix_at hy, ixv, h2]; done) | (simp only [List.length_map] at h1 hy; simp only [M_stratagem_checker_checker_counting_L1, M_stratagem_checker_checker_counting_L1_B, List.length_map, decide_lt h1, sel, ix_at hy, ixv, h2]; done)
  · simp only [M_stratagem_checker_checker_counting_L1, M_stratagem_checker_checker_counting_L1_E, List.length_map, decide_ge, sel]
theorem M_stratagem_checker_checker_counting_L1_eq (a0 : GChecker) (a1 : Int) (v6 : List (List Fact)) (hl : a0.c.Nogoods.length < 9223372036854775807) : M_stratagem_checker_checker_counting_L1 a0 a1 (((a0.c.Nogoods.map cN).length : Int).toNat + 1) 0 v6 = Rg (M_stratagem_checker_checker_counting_L1_B a0 a1) (M_stratagem_checker_checker_counting_L1_E a0 a1) a0.c.Nogoods 0 v6 := by
  have h := M_stratagem_checker_checker_counting_L1_rg a0 a1 hl (a0.c.Nogoods.length + 1) 0 v6 (Nat.zero_le _) (by omega)
  rw [List.length_map, Int.toNat_natCast]
  exact h
def M_stratagem_checker_checker_step_L1_B (g : Nat) (v2 : Int) (_ : List (List Fact)) (_y37 : List Fact) (_ : Int) : ((List Int) × (List Int) × (List Fact) × (List GOp) × (Int) × (List Nogood) × (Int)) → (((List Int) × (List Int) × (List Fact) × (List GOp) × (Int) × (List Nogood) × (Int)) → Option (Er × GChecker)) → Option (Er × GChecker) := fun (v29, v30, v31, v32, v33, v34, v35) rc => ixv _y37 (fun y37 =>
       ob3 (M_stratagem_checker_checker_covered g ({ t := { Vars := v29, Init := v30, Goal := v31, Ops := v32 : GTask }, c := { Bound := v33, Nogoods := v34 : GCertificate }, steps := v35 : GChecker }) y37 v2) (fun z38 z39 c40 =>
        erM z39
         (sel (!z38)
           (some ((Er.no 19), c40))
           (rc (c40.t.Vars, c40.t.Init, c40.t.Goal, c40.t.Ops, c40.c.Bound, c40.c.Nogoods, c40.steps)))
         (fun e41 => some ((Er.no e41), c40))))
def M_stratagem_checker_checker_step_L1_E (_ : Nat) (_ : Int) (_ : List (List Fact)) : ((List Int) × (List Int) × (List Fact) × (List GOp) × (Int) × (List Nogood) × (Int)) → Option (Er × GChecker) := fun (v29, v30, v31, v32, v33, v34, v35) => some (Er.nil, { t := { Vars := v29, Init := v30, Goal := v31, Ops := v32 : GTask }, c := { Bound := v33, Nogoods := v34 : GCertificate }, steps := v35 : GChecker })
theorem M_stratagem_checker_checker_step_L1_rg (g : Nat) (v2 : Int) (z7 : List (List Fact)) (hl : z7.length < 9223372036854775807) : ∀ (k n : Nat) (v29 : List Int) (v30 : List Int) (v31 : List Fact) (v32 : List GOp) (v33 : Int) (v34 : List Nogood) (v35 : Int), n ≤ z7.length → z7.length < k + n → M_stratagem_checker_checker_step_L1 g v2 z7 k (n : Int) v29 v30 v31 v32 v33 v34 v35 = Rg (M_stratagem_checker_checker_step_L1_B g v2 z7) (M_stratagem_checker_checker_step_L1_E g v2 z7) (z7.drop n) n (v29, v30, v31, v32, v33, v34, v35) := by
  intro k n v29 v30 v31 v32 v33 v34 v35
  refine rg_of (L := fun k i (p : ((List Int) × (List Int) × (List Fact) × (List GOp) × (Int) × (List Nogood) × (Int))) => match p with | (v29, v30, v31, v32, v33, v34, v35) => M_stratagem_checker_checker_step_L1 g v2 z7 k i v29 v30 v31 v32 v33 v34 v35) hl (fun k n p y hy hn => ?_) (fun k p => ?_) k n (v29, v30, v31, v32, v33, v34, v35)
  · have h1 := lt_some hy
    have h2 := w64s hn
    first | (simp only [M_stratagem_checker_checker_step_L1, M_stratagem_checker_checker_step_L1_B, List.length_map, decide_lt h1, sel, ix_at hy, ixv, h2]; done) | (simp only [List.length_map] at h1 hy; simp only [M_stratagem_checker_checker_step_L1, M_stratagem_checker_checker_step_L1_B, List.length_map, decide_lt h1, sel, ix_at hy, ixv, h2]; done)
  · simp only [M_stratagem_checker_checker_step_L1, M_stratagem_checker_checker_step_L1_E, List.length_map, decide_ge, sel]
theorem M_stratagem_checker_checker_step_L1_eq (g : Nat) (v2 : Int) (z7 : List (List Fact)) (v29 : List Int) (v30 : List Int) (v31 : List Fact) (v32 : List GOp) (v33 : Int) (v34 : List Nogood) (v35 : Int) (hl : z7.length < 9223372036854775807) : M_stratagem_checker_checker_step_L1 g v2 z7 (((z7.map cL_cF).length : Int).toNat + 1) 0 v29 v30 v31 v32 v33 v34 v35 = Rg (M_stratagem_checker_checker_step_L1_B g v2 z7) (M_stratagem_checker_checker_step_L1_E g v2 z7) z7 0 (v29, v30, v31, v32, v33, v34, v35) := by
  have h := M_stratagem_checker_checker_step_L1_rg g v2 z7 hl (z7.length + 1) 0 v29 v30 v31 v32 v33 v34 v35 (Nat.zero_le _) (by omega)
  rw [List.length_map, Int.toNat_natCast]
  exact h
def M_checker_Where_L1_B (a0 : GTask) (_ : GCertificate) (_y25 : Nogood) (_ : Int) : Unit → (Unit → Option (Unit ⊕ (Int × Int × Er))) → Option (Unit ⊕ (Int × Int × Er)) := fun _ rc => ixv _y25 (fun y25 =>
       ob1 (M_task_Holds y25.1 a0.Init) (fun z26 =>
        sel z26
         (some (.inr ((-1), (-1), (Er.no 20))))
         (rc ())))
def M_checker_Where_L1_E (_ : GTask) (_ : GCertificate) : Unit → Option (Unit ⊕ (Int × Int × Er)) := fun _ => some (.inl ())
theorem M_checker_Where_L1_rg (a0 : GTask) (a1 : GCertificate) (hl : a1.Nogoods.length < 9223372036854775807) : ∀ (k n : Nat) , n ≤ a1.Nogoods.length → a1.Nogoods.length < k + n → M_checker_Where_L1 a0 a1 k (n : Int) = Rg (M_checker_Where_L1_B a0 a1) (M_checker_Where_L1_E a0 a1) (a1.Nogoods.drop n) n () := by
  intro k n 
  refine rg_of (L := fun k i (p : Unit) => M_checker_Where_L1 a0 a1 k i) hl (fun k n p y hy hn => ?_) (fun k p => ?_) k n ()
  · have h1 := lt_some hy
    have h2 := w64s hn
    first | (simp only [M_checker_Where_L1, M_checker_Where_L1_B, List.length_map, decide_lt h1, sel, ix_at hy, ixv, h2]; done) | (simp only [List.length_map] at h1 hy; simp only [M_checker_Where_L1, M_checker_Where_L1_B, List.length_map, decide_lt h1, sel, ix_at hy, ixv, h2]; done)
  · simp only [M_checker_Where_L1, M_checker_Where_L1_E, List.length_map, decide_ge, sel]
theorem M_checker_Where_L1_eq (a0 : GTask) (a1 : GCertificate)  (hl : a1.Nogoods.length < 9223372036854775807) : M_checker_Where_L1 a0 a1 (((a1.Nogoods.map cN).length : Int).toNat + 1) 0 = Rg (M_checker_Where_L1_B a0 a1) (M_checker_Where_L1_E a0 a1) a1.Nogoods 0 () := by
  have h := M_checker_Where_L1_rg a0 a1 hl (a1.Nogoods.length + 1) 0  (Nat.zero_le _) (by omega)
  rw [List.length_map, Int.toNat_natCast]
  exact h
def M_checker_Where_L2_B (_ : GTask) (g : Nat) (v184 : Int) (y231 : Nogood) (v246 : Int) : ((List Int) × (List Int) × (List Fact) × (List GOp) × (Int) × (List Nogood) × (Int)) → (((List Int) × (List Int) × (List Fact) × (List GOp) × (Int) × (List Nogood) × (Int)) → Option (((List Int) × (List Int) × (List Fact) × (List GOp) × Int × (List Nogood) × Int) ⊕ (Int × Int × Er))) → Option (((List Int) × (List Int) × (List Fact) × (List GOp) × Int × (List Nogood) × Int) ⊕ (Int × Int × Er)) := fun (v247, v248, v249, v250, v251, v252, v253) rc => ob2 (M_stratagem_checker_checker_step g ({ t := { Vars := v247, Init := v248, Goal := v249, Ops := v250 : GTask }, c := { Bound := v251, Nogoods := v252 : GCertificate }, steps := v253 : GChecker }) y231 v246) (fun z255 c256 =>
       erM z255
        (rc (c256.t.Vars, c256.t.Init, c256.t.Goal, c256.t.Ops, c256.c.Bound, c256.c.Nogoods, c256.steps))
        (fun e257 => some (.inr (v184, v246, (Er.no e257)))))
def M_checker_Where_L2_E (_ : GTask) (_ : Nat) (_ : Int) (_ : Nogood) : ((List Int) × (List Int) × (List Fact) × (List GOp) × (Int) × (List Nogood) × (Int)) → Option (((List Int) × (List Int) × (List Fact) × (List GOp) × Int × (List Nogood) × Int) ⊕ (Int × Int × Er)) := fun (v247, v248, v249, v250, v251, v252, v253) => some (.inl (v247, v248, v249, v250, v251, v252, v253))
theorem M_checker_Where_L2_rg (a0 : GTask) (g : Nat) (v184 : Int) (y231 : Nogood) {m : Nat} (hm : ((a0.Ops.map cGOp).length : Int) = (m : Int)) (hl : m < 9223372036854775807) : ∀ (k n : Nat) (v247 : List Int) (v248 : List Int) (v249 : List Fact) (v250 : List GOp) (v251 : Int) (v252 : List Nogood) (v253 : Int), n ≤ m → m < k + n → M_checker_Where_L2 a0 g v184 y231 k (n : Int) v247 v248 v249 v250 v251 v252 v253 = Rn (M_checker_Where_L2_B a0 g v184 y231) (M_checker_Where_L2_E a0 g v184 y231) (m - n) n (v247, v248, v249, v250, v251, v252, v253) := by
  intro k n v247 v248 v249 v250 v251 v252 v253
  refine rn_of (L := fun k i (p : ((List Int) × (List Int) × (List Fact) × (List GOp) × (Int) × (List Nogood) × (Int))) => match p with | (v247, v248, v249, v250, v251, v252, v253) => M_checker_Where_L2 a0 g v184 y231 k i v247 v248 v249 v250 v251 v252 v253) hl (fun k n p hn => ?_) (fun k p => ?_) k n (v247, v248, v249, v250, v251, v252, v253)
  · have h2 := w64s (Nat.lt_trans hn hl)
    simp only [M_checker_Where_L2, M_checker_Where_L2_B, hm, decide_lt hn, sel, h2]
  · simp only [M_checker_Where_L2, M_checker_Where_L2_E, hm, decide_ge, sel]
theorem M_checker_Where_L2_eq (a0 : GTask) (g : Nat) (v184 : Int) (y231 : Nogood) (v247 : List Int) (v248 : List Int) (v249 : List Fact) (v250 : List GOp) (v251 : Int) (v252 : List Nogood) (v253 : Int) {m : Nat} (hm : ((a0.Ops.map cGOp).length : Int) = (m : Int)) (hl : m < 9223372036854775807) : M_checker_Where_L2 a0 g v184 y231 ((((a0.Ops.map cGOp).length : Int)).toNat + 1) 0 v247 v248 v249 v250 v251 v252 v253 = Rn (M_checker_Where_L2_B a0 g v184 y231) (M_checker_Where_L2_E a0 g v184 y231) m 0 (v247, v248, v249, v250, v251, v252, v253) := by
  have h := M_checker_Where_L2_rg a0 g v184 y231 hm hl (m + 1) 0 v247 v248 v249 v250 v251 v252 v253 (Nat.zero_le _) (by omega)
  have e : (((a0.Ops.map cGOp).length : Int)).toNat = m := by rw [hm, Int.toNat_natCast]
  rw [e]
  exact h
def M_checker_Where_L3_B (a0 : GTask) (_ : GCertificate) (g : Nat) (_y231 : Nogood) (v184 : Int) : ((List Int) × (List Int) × (List Fact) × (List GOp) × (Int) × (List Nogood) × (Int)) → (((List Int) × (List Int) × (List Fact) × (List GOp) × (Int) × (List Nogood) × (Int)) → Option (Int × Int × Er)) → Option (Int × Int × Er) := fun (v185, v186, v187, v188, v189, v190, v191) rc => ob1 (ixv _y231 (fun y231 =>
        M_checker_Where_L2 a0 g v184 y231 ((((a0.Ops.map cGOp).length : Int)).toNat + 1) 0 v185 v186 v187 v188 v189 v190 v191) : Option (((List Int) × (List Int) × (List Fact) × (List GOp) × Int × (List Nogood) × Int) ⊕ (Int × Int × Er)))
       (osum
       (fun (v220, v221, v222, v223, v224, v225, v226) => rc (v220, v221, v222, v223, v224, v225, v226))
       (fun (r227, r228, r229) => some (r227, r228, r229)))
def M_checker_Where_L3_E (_ : GTask) (_ : GCertificate) (_ : Nat) : ((List Int) × (List Int) × (List Fact) × (List GOp) × (Int) × (List Nogood) × (Int)) → Option (Int × Int × Er) := fun (_, _, _, _, _, _, _) => some ((-1), (-1), Er.nil)
theorem M_checker_Where_L3_rg (a0 : GTask) (a1 : GCertificate) (g : Nat) (hl : a1.Nogoods.length < 9223372036854775807) : ∀ (k n : Nat) (v185 : List Int) (v186 : List Int) (v187 : List Fact) (v188 : List GOp) (v189 : Int) (v190 : List Nogood) (v191 : Int), n ≤ a1.Nogoods.length → a1.Nogoods.length < k + n → M_checker_Where_L3 a0 a1 g k (n : Int) v185 v186 v187 v188 v189 v190 v191 = Rg (M_checker_Where_L3_B a0 a1 g) (M_checker_Where_L3_E a0 a1 g) (a1.Nogoods.drop n) n (v185, v186, v187, v188, v189, v190, v191) := by
  intro k n v185 v186 v187 v188 v189 v190 v191
  refine rg_of (L := fun k i (p : ((List Int) × (List Int) × (List Fact) × (List GOp) × (Int) × (List Nogood) × (Int))) => match p with | (v185, v186, v187, v188, v189, v190, v191) => M_checker_Where_L3 a0 a1 g k i v185 v186 v187 v188 v189 v190 v191) hl (fun k n p y hy hn => ?_) (fun k p => ?_) k n (v185, v186, v187, v188, v189, v190, v191)
  · have h1 := lt_some hy
    have h2 := w64s hn
    first | (simp only [M_checker_Where_L3, M_checker_Where_L3_B, List.length_map, decide_lt h1, sel, ix_at hy, ixv, h2]; done) | (simp only [List.length_map] at h1 hy; simp only [M_checker_Where_L3, M_checker_Where_L3_B, List.length_map, decide_lt h1, sel, ix_at hy, ixv, h2]; done)
  · simp only [M_checker_Where_L3, M_checker_Where_L3_E, List.length_map, decide_ge, sel]
theorem M_checker_Where_L3_eq (a0 : GTask) (a1 : GCertificate) (g : Nat) (v185 : List Int) (v186 : List Int) (v187 : List Fact) (v188 : List GOp) (v189 : Int) (v190 : List Nogood) (v191 : Int) (hl : a1.Nogoods.length < 9223372036854775807) : M_checker_Where_L3 a0 a1 g (((a1.Nogoods.map cN).length : Int).toNat + 1) 0 v185 v186 v187 v188 v189 v190 v191 = Rg (M_checker_Where_L3_B a0 a1 g) (M_checker_Where_L3_E a0 a1 g) a1.Nogoods 0 (v185, v186, v187, v188, v189, v190, v191) := by
  have h := M_checker_Where_L3_rg a0 a1 g hl (a1.Nogoods.length + 1) 0 v185 v186 v187 v188 v189 v190 v191 (Nat.zero_le _) (by omega)
  rw [List.length_map, Int.toNat_natCast]
  exact h
end Go.Proofs.YtcpajbglcgbolaaGreat.Am
/- Plain: certificate.Check, Proper; task.Holds. -/
namespace Go.Proofs.YtcpajbglcgbolaaGreat.Am
open Go.RowKit
theorem tholds_eq (l : List Fact) (s : List Int) (hl : Sh l) : M_task_Holds l s = some (holdsF s l) := by
  rw [M_task_Holds, M_task_Holds_L1_eq l s hl.lt, rg_all (p := hold1 s) (c := some false)]
  · rw [M_task_Holds_L1_E, holdsF]; cases l.all (hold1 s) <;> rfl
  · intro x _ i rc
    rw [M_task_Holds_L1_B, ixv, sel_dec, sel_dec, List.length_map, hold1]
    by_cases h0 : x.1 < 0
    · rw [if_pos h0, decide_eq_false (by omega), Bool.false_and, if_neg (by decide)]
    · rw [if_neg h0, decide_eq_true (p := 0 ≤ x.1) (by omega), Bool.true_and]
      by_cases h1 : x.1 < s.length
      · rw [if_neg (by omega), decide_eq_true h1, Bool.true_and, ix_getD (d := 0) (by omega) h1, bne]
        cases s.getD x.1.toNat 0 == x.2 <;> rfl
      · rw [if_pos (by omega), decide_eq_false h1, Bool.false_and, if_neg (by decide)]
def limF (l : List Fact) : Bool := l.all fun x => decide (x.1 < 64 ∧ x.2 < 64)
def frmF (l : List Fact) : Bool := vF (-1) l && limF l
theorem formed_loop (l : List Fact) (hs : Sh l) : ∀ (r : List Fact) (n : Nat) (last : Int), l.drop n = r → n ≤ l.length → -1 ≤ last → (n = 0 → last = -1) → (∀ m, n = m + 1 → ∃ x, l[m]? = some x ∧ x.1 = last) → Rg (M_certificate_formed_L1_B l) (M_certificate_formed_L1_E l) r n () = some (vF last r && limF r)
  | [], _, _, _, _, _, _, _ => rfl
  | y :: r, n, last, hd, hn, hl, h0, hp => by
    rw [Rg, vF, limF, List.all_cons]
    obtain ⟨hy, hd', hlt⟩ := drop_cons hd
    have hih : 0 ≤ y.1 → Rg (M_certificate_formed_L1_B l) (M_certificate_formed_L1_E l) r ((n : Int) + 1) () = some (vF y.1 r && limF r) := fun h => formed_loop l hs r (n + 1) y.1 hd' hlt (by omega) (by omega) (fun m hm => ⟨y, by rw [show m = n by omega]; exact hy, rfl⟩)
    simp only [M_certificate_formed_L1_B, ixv, sel_dec]
    by_cases h1 : y.1 < 0
    · rw [if_pos h1, decide_eq_false (p := last < y.1 ∧ 0 ≤ y.2) (by omega)]; rfl
    · rw [if_neg h1]
      by_cases h2 : y.1 ≥ 64
      · rw [if_pos h2, decide_eq_false (p := y.1 < 64 ∧ y.2 < 64) (by omega), Bool.false_and, Bool.and_false]
      · rw [if_neg h2]
        by_cases h3 : y.2 < 0
        · rw [if_pos h3, decide_eq_false (p := last < y.1 ∧ 0 ≤ y.2) (by omega)]; rfl
        · rw [if_neg h3]
          by_cases h4 : y.2 ≥ 64
          · rw [if_pos h4, decide_eq_false (p := y.1 < 64 ∧ y.2 < 64) (by omega), Bool.false_and, Bool.and_false]
          · rw [if_neg h4, decide_eq_true (p := y.1 < 64 ∧ y.2 < 64) (by omega), Bool.true_and]
            cases n with
            | zero =>
              have := h0 rfl
              rw [if_neg (by omega), decide_eq_true (p := last < y.1 ∧ 0 ≤ y.2) (by omega)]
              exact hih (by omega)
            | succ m =>
              obtain ⟨x, hx, hxl⟩ := hp m rfl
              rw [if_pos (by omega), w64 (by omega) (by have := hs; unfold Sh at this; omega), show (((m + 1 : Nat) : Int) - 1) = (m : Int) by omega, ix_at hx]
              by_cases h5 : x.1 ≥ y.1
              · rw [if_pos h5, decide_eq_false (p := last < y.1 ∧ 0 ≤ y.2) (by omega)]; rfl
              · rw [if_neg h5, decide_eq_true (p := last < y.1 ∧ 0 ≤ y.2) (by omega)]
                exact hih (by omega)
theorem formed_eq (l : List Fact) (hl : Sh l) : M_certificate_formed l = some (frmF l) := by
  rw [M_certificate_formed, M_certificate_formed_L1_eq _ hl.lt]
  exact formed_loop l hl l 0 (-1) rfl (Nat.zero_le _) (by omega) (fun _ => rfl) (fun m hm => by omega)
/-- sizes of a certificate -/
structure ShC (c : GCertificate) : Prop where
  list : Sh c.Nogoods
  each : ∀ n ∈ c.Nogoods, Sh n.1
def distF (b : Int) (n : Nogood) : Bool := decide (0 ≤ n.2 ∧ (0 ≤ b → n.2 < b) ∧ (b < 0 → n.2 = 0))
def certF (c : GCertificate) : Er :=
  if c.Bound < -1 ∨ c.Bound > 1099511627776 then .no 1
  else if c.Nogoods.length > 4096 then .no 5
  else if (c.Nogoods.all fun n => frmF n.1) = true then (if (c.Nogoods.all (distF c.Bound)) = true then .nil else .no 1)
  else .no 2
theorem ccheck_eq (c : GCertificate) (hc : ShC c) : M_certificate_Check c = some (certF c) := by
  rw [M_certificate_Check, certF, sel_dec, sel_dec]
  by_cases h1 : c.Bound < -1
  · rw [if_pos h1, if_pos (Or.inl h1)]; rfl
  · rw [if_neg h1]
    by_cases h2 : c.Bound > 1099511627776
    · rw [if_pos h2, if_pos (Or.inr h2)]; rfl
    · rw [if_neg h2, if_neg (by omega), ob1_some, osum_inl, sel_dec, List.length_map]
      by_cases h3 : c.Nogoods.length > 4096
      · rw [if_pos (by omega), if_pos h3]
      · have e1 := M_certificate_Check_L1_eq c (by omega)
        have e2 := M_certificate_Check_L2_eq c (by omega)
        rw [List.length_map] at e1 e2
        rw [if_neg (by omega), if_neg h3, e1, rg_all (p := fun n : Nogood => frmF n.1) (c := some (.inr (Er.no 2)))]
        · cases ha : c.Nogoods.all fun n => frmF n.1 with
          | false => rw [if_neg (by decide), ob1_some, osum_inr, if_neg (by decide)]
          | true =>
            rw [if_pos rfl, if_pos rfl, M_certificate_Check_L1_E, ob1_some, osum_inl, e2, rg_all (p := distF c.Bound) (c := some (Er.no 1)), M_certificate_Check_L2_E]
            · split <;> rfl
            · intro n _ i rc
              rw [M_certificate_Check_L2_B, ixv, distF]
              simp only [sel_dec]
              by_cases q1 : n.2 < 0
              · rw [if_pos q1, decide_eq_false (by omega)]; rfl
              · rw [if_neg q1]
                by_cases q2 : c.Bound ≥ 0
                · rw [if_pos q2]
                  by_cases q3 : n.2 ≥ c.Bound
                  · rw [if_pos q3, decide_eq_false (by omega)]; rfl
                  · rw [if_neg q3, if_neg (by omega), decide_eq_true (by omega)]; rfl
                · rw [if_neg q2, if_pos (by omega)]
                  by_cases q4 : n.2 = 0
                  · rw [show (n.2 != 0) = false from by simp [q4], sel_ff, decide_eq_true (by omega)]; rfl
                  · rw [show (n.2 != 0) = true from by simp [q4], sel_tt, decide_eq_false (by omega)]; rfl
        · intro n hn i rc
          rw [M_certificate_Check_L1_B, ixv, formed_eq n.1 (hc.each n hn), ob1_some]
          cases frmF n.1 <;> rfl
def properF (vars : List Int) (c : GCertificate) : Er :=
  match certF c with
  | .nil => if (c.Nogoods.all fun n => propF vars (-1) n.1) = true then .nil else .no 2
  | .no e => .no e
theorem cproper_eq (vars : List Int) (c : GCertificate) (hc : ShC c) : M_certificate_Proper vars c = some (properF vars c) := by
  have e1 := M_certificate_Proper_L1_eq vars c hc.list.lt
  rw [M_certificate_Proper, ccheck_eq c hc, ob1_some, properF, e1]
  cases certF c with
  | no e => rfl
  | nil =>
    show Rg _ _ _ _ _ = _
    rw [rg_all (p := fun n : Nogood => propF vars (-1) n.1) (c := some (Er.no 2)), M_certificate_Proper_L1_E]
    · simp only; split <;> rfl
    · intro n hn i rc
      rw [M_certificate_Proper_L1_B, ixv, facts_eq vars n.1 (hc.each n hn), ob1_some]
      cases propF vars (-1) n.1 <;> rfl
/-- a certificate that is proper -/
structure CertP (vars : List Int) (c : GCertificate) : Prop where
  b0 : -1 ≤ c.Bound
  b1 : c.Bound ≤ 1099511627776
  len : c.Nogoods.length ≤ 4096
  prop : ∀ n ∈ c.Nogoods, propF vars (-1) n.1 = true
  frm : ∀ n ∈ c.Nogoods, frmF n.1 = true
  d0 : ∀ n ∈ c.Nogoods, 0 ≤ n.2
  d1 : ∀ n ∈ c.Nogoods, 0 ≤ c.Bound → n.2 < c.Bound
  d2 : ∀ n ∈ c.Nogoods, c.Bound < 0 → n.2 = 0
theorem certF_nil (c : GCertificate) : certF c = .nil ↔ -1 ≤ c.Bound ∧ c.Bound ≤ 1099511627776 ∧ c.Nogoods.length ≤ 4096 ∧ (∀ n ∈ c.Nogoods, frmF n.1 = true) ∧ ∀ n ∈ c.Nogoods, distF c.Bound n = true := by
  unfold certF
  split
  · exact ⟨(nofun), fun h => by omega⟩
  · split
    · exact ⟨(nofun), fun h => by omega⟩
    · split
      · rename_i h
        rw [List.all_eq_true] at h
        split
        · rename_i h2
          rw [List.all_eq_true] at h2
          exact ⟨fun _ => ⟨by omega, by omega, by omega, h, h2⟩, fun _ => rfl⟩
        · rename_i h2
          rw [List.all_eq_true] at h2
          exact ⟨(nofun), fun hh => absurd hh.2.2.2.2 h2⟩
      · rename_i h
        rw [List.all_eq_true] at h
        exact ⟨(nofun), fun hh => absurd hh.2.2.2.1 h⟩
theorem properF_nil (vars : List Int) (c : GCertificate) : properF vars c = .nil ↔ CertP vars c := by
  unfold properF
  constructor
  · intro h
    cases hc : certF c with
    | no e => rw [hc] at h; cases h
    | nil =>
      rw [hc] at h
      simp only at h
      split at h
      · rename_i ha
        rw [List.all_eq_true] at ha
        obtain ⟨h1, h2, h3, h4, h5⟩ := (certF_nil c).1 hc
        have hd : ∀ n ∈ c.Nogoods, 0 ≤ n.2 ∧ (0 ≤ c.Bound → n.2 < c.Bound) ∧ (c.Bound < 0 → n.2 = 0) := fun n hn => of_decide_eq_true (h5 n hn)
        exact ⟨h1, h2, h3, ha, h4, fun n hn => (hd n hn).1, fun n hn => (hd n hn).2.1, fun n hn => (hd n hn).2.2⟩
      · cases h
  · intro h
    rw [(certF_nil c).2 ⟨h.b0, h.b1, h.len, h.frm, fun n hn => decide_eq_true ⟨h.d0 n hn, h.d1 n hn, h.d2 n hn⟩⟩]
    simp only
    rw [if_pos (List.all_eq_true.2 h.prop)]
end Go.Proofs.YtcpajbglcgbolaaGreat.Am
/- Plain: checker.Where, Verify. -/
namespace Go.Proofs.YtcpajbglcgbolaaGreat.Am
open Go.RowKit
def countL (ns : List Nogood) (d : Int) : List (List Fact) := (ns.filter fun n => decide (n.2 ≤ d)).map (·.1)
theorem count_loop (x : GChecker) (d : Int) : ∀ (r : List Nogood) (i : Int) (v : List (List Fact)), v.length + r.length ≤ 1000000 →
    Rg (M_stratagem_checker_checker_counting_L1_B x d) (M_stratagem_checker_checker_counting_L1_E x d) r i v = some (v ++ countL r d)
  | [], i, v, h => by rw [Rg, M_stratagem_checker_checker_counting_L1_E, grd_t (by simp at h; omega)]; simp [countL]
  | n :: r, i, v, h => by
    rw [List.length_cons] at h
    rw [Rg, M_stratagem_checker_checker_counting_L1_B, ixv, sel_dec]
    by_cases hd : n.2 ≤ d
    · rw [if_pos hd, grd_t (by omega), count_loop x d r _ _ (by simp; omega)]
      simp [countL, hd]
    · rw [if_neg hd, count_loop x d r _ _ (by omega)]
      simp [countL, hd]
theorem counting_eq (x : GChecker) (d : Int) (h : x.c.Nogoods.length ≤ 4096) : M_stratagem_checker_checker_counting x d = some (countL x.c.Nogoods d) := by
  rw [M_stratagem_checker_checker_counting, M_stratagem_checker_checker_counting_L1_eq x d [] (by omega), count_loop x d _ _ _ (by simp; omega), List.nil_append]
theorem count_prop {vars : List Int} {c : GCertificate} (h : CertP vars c) (d : Int) : PropL vars (countL c.Nogoods d) := fun x hx => by
  obtain ⟨n, hn, rfl⟩ := List.mem_map.1 hx
  exact h.prop n (List.mem_filter.1 hn).1
theorem count_len {vars : List Int} {c : GCertificate} (h : CertP vars c) (d : Int) : (countL c.Nogoods d).length ≤ 4096 := by
  unfold countL
  rw [List.length_map]
  exact Nat.le_trans (List.length_filter_le _ _) h.len
/-- one question, with the steps that are left -/
def askC (t : GTask) (c : GCertificate) (p : List Fact) (d r : Int) : Bool × Er × Int :=
  if (covA t.Vars p (countL c.Nogoods d)).2 ≤ r then ((covA t.Vars p (countL c.Nogoods d)).1, .nil, r - (covA t.Vars p (countL c.Nogoods d)).2) else (false, .no 10, r)
theorem covA_pos (vars : List Int) (p : List Fact) (l : List (List Fact)) : 1 ≤ (covA vars p l).2 := decA_pos _ _ _ _
theorem askC_r {t : GTask} {c : GCertificate} {p : List Fact} {d r : Int} (h : 0 ≤ r ∧ r ≤ 1048576) : 0 ≤ (askC t c p d r).2.2 ∧ (askC t c p d r).2.2 ≤ 1048576 := by
  have := covA_pos t.Vars p (countL c.Nogoods d)
  unfold askC
  split
  · show 0 ≤ r - _ ∧ r - _ ≤ _; omega
  · exact h
theorem ask_eq {t : GTask} {c : GCertificate} (hd : DomP t.Vars) (hc : CertP t.Vars c) (g : Nat) (hg : 70 ≤ g) (p : List Fact) (hp : propF t.Vars (-1) p = true) (d r : Int) (hr : 0 ≤ r ∧ r ≤ 1048576) :
    M_stratagem_checker_checker_covered g { t := t, c := c, steps := r } p d = some ((askC t c p d r).1, (askC t c p d r).2.1, { t := t, c := c, steps := (askC t c p d r).2.2 }) := by
  have hl := count_len hc d
  rw [M_stratagem_checker_checker_covered, counting_eq _ d hc.len, ob1_some]
  show ob3 (M_partial_Covered g t.Vars p (countL c.Nogoods d) r) _ = _
  rw [covered_eq hd hp (count_prop hc d) (by omega) r (by omega) g (by omega), covR, askC]
  have hpos := covA_pos t.Vars p (countL c.Nogoods d)
  by_cases h : (covA t.Vars p (countL c.Nogoods d)).2 ≤ r
  · rw [if_pos h, if_pos h, ob3_some]
    show some (_, _, _) = some (_, _, _)
    rw [wrap_eq (by show _ ≤ r - _; omega) (by show r - _ ≤ _; omega)]
  · rw [if_neg h, if_neg h, ob3_some]; rfl
def stepL (t : GTask) (c : GCertificate) (d : Int) : List (List Fact) → Int → Er × Int
  | [], r => (.nil, r)
  | p :: ps, r => match askC t c p d r with
    | (true, .nil, r') => stepL t c d ps r'
    | (false, .nil, r') => (.no 19, r')
    | (_, .no e, r') => (.no e, r')
theorem stepL_r (t : GTask) (c : GCertificate) (d : Int) : ∀ (l : List (List Fact)) (r : Int), 0 ≤ r ∧ r ≤ 1048576 → 0 ≤ (stepL t c d l r).2 ∧ (stepL t c d l r).2 ≤ 1048576
  | [], r, h => h
  | p :: ps, r, h => by
    have ha := askC_r (t := t) (c := c) (p := p) (d := d) h
    rw [stepL]
    rcases hq : askC t c p d r with ⟨b, e, r'⟩
    rw [hq] at ha
    cases e with
    | no e => cases b <;> exact ha
    | nil =>
      cases b with
      | false => exact ha
      | true => exact stepL_r t c d ps r' ha
theorem step_loop {t : GTask} {c : GCertificate} (hd : DomP t.Vars) (hc : CertP t.Vars c) (g : Nat) (hg : 70 ≤ g) (d : Int) (z : List (List Fact)) : ∀ (l : List (List Fact)) (i r : Int), PropL t.Vars l → 0 ≤ r ∧ r ≤ 1048576 →
    Rg (M_stratagem_checker_checker_step_L1_B g d z) (M_stratagem_checker_checker_step_L1_E g d z) l i (t.Vars, t.Init, t.Goal, t.Ops, c.Bound, c.Nogoods, r) = some ((stepL t c d l r).1, { t := t, c := c, steps := (stepL t c d l r).2 })
  | [], i, r, _, _ => rfl
  | p :: ps, i, r, hl, hr => by
    rw [Rg, M_stratagem_checker_checker_step_L1_B]
    show ixv p (fun y37 => ob3 (M_stratagem_checker_checker_covered g { t := t, c := c, steps := r } y37 d) _) = _
    rw [ixv, ask_eq hd hc g hg p (hl p (List.mem_cons_self ..)) d r hr, ob3_some, stepL]
    have ha := askC_r (t := t) (c := c) (p := p) (d := d) hr
    rcases hq : askC t c p d r with ⟨b, e, r'⟩
    rw [hq] at ha
    cases e with
    | no e => cases b <;> rfl
    | nil =>
      cases b with
      | false => rfl
      | true => exact step_loop hd hc g hg d z ps _ r' (fun x hx => hl x (List.mem_cons_of_mem _ hx)) ha
def distO (c : GCertificate) (n : Nogood) (o : GOp) : Int := if 0 ≤ c.Bound then n.2 + o.Cost else 0
def skipO (c : GCertificate) (n : Nogood) (o : GOp) : Bool := decide (0 ≤ c.Bound ∧ c.Bound ≤ n.2 + o.Cost)
def stepO (t : GTask) (c : GCertificate) (n : Nogood) (o : GOp) (r : Int) : Er × Int :=
  if skipO c n o = true then (.nil, r)
  else match regO t.Vars o n.1 with
    | none => (.no 5, r)
    | some l => stepL t c (distO c n o) l r
theorem stepO_r (t : GTask) (c : GCertificate) (n : Nogood) (o : GOp) (r : Int) (h : 0 ≤ r ∧ r ≤ 1048576) : 0 ≤ (stepO t c n o r).2 ∧ (stepO t c n o r).2 ≤ 1048576 := by
  unfold stepO
  split
  · exact h
  · split
    · exact h
    · exact stepL_r _ _ _ _ _ h
theorem regO_len {t : GTask} (hgood : goodF t = true) {p : List Fact} (hpf : propF t.Vars (-1) p = true) {o : GOp} (ho : o ∈ t.Ops) {l : List (List Fact)} (h : regO t.Vars o p = some l) : PropL t.Vars l ∧ l.length ≤ 1024 := by
  unfold regO at h
  cases hr : regG t.Vars o p [o.Pre] with
  | none => rw [hr] at h; cases h
  | some m =>
    rw [hr, Option.map_some] at h
    obtain rfl := Option.some.inj h
    obtain ⟨l1, -, l3⟩ := pre_prop hgood hpf ho hr
    refine ⟨fun x hx => l1 x (List.mem_filter.1 ((sortLL_mem x _).1 hx)).1, ?_⟩
    rw [sortLL_length]
    exact Nat.le_trans (List.length_filter_le _ _) l3
theorem good_cost {t : GTask} (h : goodF t = true) {o : GOp} (ho : o ∈ t.Ops) : 0 ≤ o.Cost ∧ o.Cost ≤ 1048576 := by
  unfold goodF at h
  simp only [Bool.and_eq_true, List.all_eq_true] at h
  have := h.2.2.2.2 o ho
  unfold opF at this
  simp only [Bool.and_eq_true, decide_eq_true_iff] at this
  exact ⟨this.1.1, this.1.2.1⟩
theorem step_eq {t : GTask} (ht : ShT t) (hgood : goodF t = true) {c : GCertificate} (hc : CertP t.Vars c) (g : Nat) (hg : 70 ≤ g) (n : Nogood) (hn : n ∈ c.Nogoods) (j : Nat) (o : GOp) (hj : t.Ops[j]? = some o) (r : Int) (hr : 0 ≤ r ∧ r ≤ 1048576) :
    M_stratagem_checker_checker_step g { t := t, c := c, steps := r } n j = some ((stepO t c n o r).1, { t := t, c := c, steps := (stepO t c n o r).2 }) := by
  have hd := good_dom hgood
  have ho := List.mem_of_getElem? hj
  have hcost := good_cost hgood ho
  have hn0 := hc.d0 n hn
  have hn1 := hc.d1 n hn
  have hb1 := hc.b1
  have hw : 0 ≤ c.Bound → IntKind.i64.wrap (n.2 + o.Cost) = n.2 + o.Cost := fun h => wrap_eq (by omega) (by have := hn1 h; omega)
  have hreg : ∀ v : Int, v = distO c n o → skipO c n o = false → ob2 (M_regress_Regress g t (j : Int) n.1) (fun z7 z8 =>
      erM z8 (M_stratagem_checker_checker_step_L1 g v z7 ((((z7.map cL_cF).length : Int)).toNat + 1) 0 t.Vars t.Init t.Goal t.Ops c.Bound c.Nogoods r)
       (fun e9 => some ((Er.no e9), ({ t := t, c := c, steps := r } : GChecker)))) = some ((stepO t c n o r).1, { t := t, c := c, steps := (stepO t c n o r).2 }) := by
    intro v hv hs
    rw [regress_eq t ht hgood n.1 (hc.prop n hn) g hg (j : Int) o (by omega) (by rw [Int.toNat_natCast]; exact hj), ob2_res, stepO, hs, if_neg (by decide)]
    cases hro : regO t.Vars o n.1 with
    | none => rfl
    | some l =>
      obtain ⟨l1, l2⟩ := regO_len hgood (hc.prop n hn) ho hro
      simp only
      rw [M_stratagem_checker_checker_step_L1_eq g v l _ _ _ _ _ _ _ (by omega), step_loop hd hc g hg v l l 0 r l1 hr, hv]
  rw [M_stratagem_checker_checker_step]
  simp only [sel_dec, ge_iff_le]
  by_cases h : 0 ≤ c.Bound
  · rw [if_pos h, ix_at hj, hw h]
    by_cases h2 : c.Bound ≤ n.2 + o.Cost
    · have hs : skipO c n o = true := decide_eq_true ⟨h, h2⟩
      rw [if_pos h2, ob1_some, osum_inr, stepO, hs, if_pos rfl]
    · rw [if_neg h2, ob1_some, osum_inl]
      exact hreg _ (by rw [distO, if_pos h]) (decide_eq_false (by omega))
  · rw [if_neg h, ob1_some, osum_inl]
    exact hreg _ (by rw [distO, if_neg h]) (decide_eq_false (by omega))
/-- the operators for one nogood: the steps left, or where it fails -/
def opsC (t : GTask) (c : GCertificate) (n : Nogood) (i : Int) : List GOp → Int → Int → Int ⊕ (Int × Int × Er)
  | [], _, r => .inl r
  | o :: os, j, r => match stepO t c n o r with
    | (.nil, r') => opsC t c n i os (j + 1) r'
    | (.no e, _) => .inr (i, j, .no e)
def nogC (t : GTask) (c : GCertificate) : List Nogood → Int → Int → Int × Int × Er
  | [], _, _ => (-1, -1, .nil)
  | n :: ns, i, r => match opsC t c n i t.Ops 0 r with
    | .inl r' => nogC t c ns (i + 1) r'
    | .inr x => x
theorem opsC_r (t : GTask) (c : GCertificate) (n : Nogood) (i : Int) : ∀ (l : List GOp) (j r : Int), 0 ≤ r ∧ r ≤ 1048576 → ∀ r', opsC t c n i l j r = .inl r' → 0 ≤ r' ∧ r' ≤ 1048576
  | [], j, r, h, r', e => by rw [opsC] at e; injection e with e; omega
  | o :: os, j, r, h, r', e => by
    have hs := stepO_r t c n o r h
    rw [opsC] at e
    rcases hq : stepO t c n o r with ⟨x, y⟩
    rw [hq] at e hs
    cases x with
    | no x => cases e
    | nil => exact opsC_r t c n i os (j + 1) y hs r' e
theorem ops_loop {t : GTask} (ht : ShT t) (hgood : goodF t = true) {c : GCertificate} (hc : CertP t.Vars c) (g : Nat) (hg : 70 ≤ g) (n : Nogood) (hn : n ∈ c.Nogoods) (i : Int) : ∀ (l : List GOp) (m j : Nat) (r : Int), t.Ops.drop j = l → l.length = m → 0 ≤ r ∧ r ≤ 1048576 →
    Rn (M_checker_Where_L2_B t g i n) (M_checker_Where_L2_E t g i n) m j (t.Vars, t.Init, t.Goal, t.Ops, c.Bound, c.Nogoods, r) = some (match opsC t c n i l j r with | .inl r' => .inl (t.Vars, t.Init, t.Goal, t.Ops, c.Bound, c.Nogoods, r') | .inr x => .inr x)
  | [], m, j, r, _, hm, _ => by subst hm; rfl
  | o :: os, m, j, r, hdr, hm, hr => by
    obtain ⟨hj, hd', hlt⟩ := drop_cons hdr
    obtain ⟨m, rfl⟩ : ∃ k, m = k + 1 := ⟨os.length, hm.symm⟩
    rw [Rn, M_checker_Where_L2_B]
    show ob2 (M_stratagem_checker_checker_step g { t := t, c := c, steps := r } n (j : Int)) _ = _
    have hs := stepO_r t c n o r hr
    rw [step_eq ht hgood hc g hg n hn j o hj r hr, ob2_some, opsC]
    rcases hq : stepO t c n o r with ⟨x, y⟩
    rw [hq] at hs
    cases x with
    | no x => rfl
    | nil => exact ops_loop ht hgood hc g hg n hn i os m (j + 1) y hd' (by simpa using hm) hs
theorem nog_loop {t : GTask} (ht : ShT t) (hgood : goodF t = true) {c : GCertificate} (hc : CertP t.Vars c) (g : Nat) (hg : 70 ≤ g) : ∀ (l : List Nogood) (i r : Int), (∀ n ∈ l, n ∈ c.Nogoods) → 0 ≤ r ∧ r ≤ 1048576 →
    Rg (M_checker_Where_L3_B t c g) (M_checker_Where_L3_E t c g) l i (t.Vars, t.Init, t.Goal, t.Ops, c.Bound, c.Nogoods, r) = some (nogC t c l i r)
  | [], i, r, _, _ => rfl
  | n :: ns, i, r, hl, hr => by
    have hops : t.Ops.length ≤ 4096 := by
      unfold goodF at hgood
      simp only [Bool.and_eq_true, decide_eq_true_iff] at hgood
      exact hgood.1.2
    rw [Rg, M_checker_Where_L3_B]
    show ob1 (ixv n (fun y231 => M_checker_Where_L2 t g i y231 ((((t.Ops.map cGOp).length : Int)).toNat + 1) 0 t.Vars t.Init t.Goal t.Ops c.Bound c.Nogoods r)) _ = _
    rw [ixv, M_checker_Where_L2_eq t g i n _ _ _ _ _ _ _ (m := t.Ops.length) (by rw [List.length_map]) (by omega)]
    have e := ops_loop ht hgood hc g hg n (hl n (List.mem_cons_self ..)) i t.Ops t.Ops.length 0 r rfl rfl hr
    have e' : Rn (M_checker_Where_L2_B t g i n) (M_checker_Where_L2_E t g i n) t.Ops.length 0 (t.Vars, t.Init, t.Goal, t.Ops, c.Bound, c.Nogoods, r) = _ := e
    rw [e', ob1_some, nogC]
    have hr2 := opsC_r t c n i t.Ops 0 r hr
    show osum _ _ (match opsC t c n i t.Ops 0 r with | .inl r' => _ | .inr x => _) = _
    cases ho : opsC t c n i t.Ops 0 r with
    | inl r' => exact nog_loop ht hgood hc g hg ns _ r' (fun x hx => hl x (List.mem_cons_of_mem _ hx)) (hr2 r' ho)
    | inr x => rfl
/-- what Where answers for a right task and certificate -/
def whereC (t : GTask) (c : GCertificate) (r : Int) : Int × Int × Er :=
  if c.Nogoods.any (fun n => holdsF t.Init n.1) = true then (-1, -1, .no 20)
  else if c.Bound = 0 then nogC t c c.Nogoods 0 r
  else match askC t c t.Goal 0 r with
    | (true, .nil, r') => nogC t c c.Nogoods 0 r'
    | (false, .nil, _) => (-1, -1, .no 13)
    | (_, .no e, _) => (-1, -1, .no e)
def whereF (t : GTask) (c : GCertificate) (steps : Int) : Int × Int × Er :=
  match checkF t with
  | .no e => (-1, -1, .no e)
  | .nil => match properF t.Vars c with
    | .no e => (-1, -1, .no e)
    | .nil => whereC t c (max 0 (min steps 1048576))
theorem where_eq (t : GTask) (ht : ShT t) (c : GCertificate) (hc : ShC c) (steps : Int) (g : Nat) (hg : 70 ≤ g) : M_checker_Where g t c steps = some (whereF t c steps) := by
  rw [M_checker_Where, check_eq t ht, ob1_some, whereF]
  cases hck : checkF t with
  | no e => rfl
  | nil =>
    have hgood := (good_check t).2 hck
    show ob1 (M_certificate_Proper t.Vars c) _ = _
    rw [cproper_eq t.Vars c hc, ob1_some]
    cases hpr : properF t.Vars c with
    | no e => rfl
    | nil =>
      have hcp := (properF_nil t.Vars c).1 hpr
      have hd := good_dom hgood
      have e1 := M_checker_Where_L1_eq t c hc.list.lt
      have hr : 0 ≤ max 0 (min steps 1048576) ∧ max 0 (min steps 1048576) ≤ 1048576 := by omega
      have hgoal : propF t.Vars (-1) t.Goal = true := by
        unfold goodF at hgood
        simp only [Bool.and_eq_true] at hgood
        exact hgood.2.2.2.1
      show ob1 (M_checker_Where_L1 t c _ 0) _ = _
      rw [e1, rg_all (p := fun n : Nogood => !holdsF t.Init n.1) (c := some (.inr ((-1), (-1), (Er.no 20)))), whereC]
      · have hna : (c.Nogoods.all fun n => !holdsF t.Init n.1) = !(c.Nogoods.any fun n => holdsF t.Init n.1) := by rw [List.not_any_eq_all_not]
        rw [hna]
        cases ha : c.Nogoods.any fun n => holdsF t.Init n.1 with
        | true => rfl
        | false =>
          rw [Bool.not_false, if_pos rfl, M_checker_Where_L1_E, ob1_some, osum_inl, if_neg (by decide)]
          have hnog : ∀ r : Int, 0 ≤ r ∧ r ≤ 1048576 → M_checker_Where_L3 t c g ((((c.Nogoods.map cN).length : Int)).toNat + 1) 0 t.Vars t.Init t.Goal t.Ops c.Bound c.Nogoods r = some (nogC t c c.Nogoods 0 r) := fun r hr => by
            rw [M_checker_Where_L3_eq t c g _ _ _ _ _ _ _ hc.list.lt, nog_loop ht hgood hcp g hg c.Nogoods 0 r (fun _ h => h) hr]
          by_cases hb : c.Bound = 0
          · rw [if_pos hb, show (c.Bound != 0) = false from by simp [hb], sel_ff, ob1_some, osum_inl]
            exact hnog _ hr
          · rw [if_neg hb, show (c.Bound != 0) = true from by simp [hb], sel_tt, ask_eq hd hcp g hg t.Goal hgoal 0 _ hr, ob3_some]
            have ha := askC_r (t := t) (c := c) (p := t.Goal) (d := 0) hr
            rcases hq : askC t c t.Goal 0 (max 0 (min steps 1048576)) with ⟨b, e, r'⟩
            rw [hq] at ha
            cases e with
            | no e => cases b <;> rfl
            | nil =>
              cases b with
              | false => rfl
              | true => exact hnog r' ha
      · intro n hn i rc
        rw [M_checker_Where_L1_B, ixv, tholds_eq n.1 t.Init (hc.each n hn), ob1_some]
        cases holdsF t.Init n.1 <;> rfl
def verF (t : GTask) (c : GCertificate) (steps : Int) : Er := (whereF t c steps).2.2
theorem verify_eq (t : GTask) (ht : ShT t) (c : GCertificate) (hc : ShC c) (steps : Int) (g : Nat) (hg : 70 ≤ g) : M_checker_Verify g t c steps = some (verF t c steps) := by
  rw [M_checker_Verify, where_eq t ht c hc steps g hg]
  rfl
end Go.Proofs.YtcpajbglcgbolaaGreat.Am
/- Plain: the law's example. -/
namespace Go.Proofs.YtcpajbglcgbolaaGreat.Am
open Go.RowKit
def ex31 : GTask := { Vars := [2], Init := [0], Goal := [(0, 1)], Ops := [] }
theorem ex31_a : verF ex31 { Bound := -1, Nogoods := [([(0, 1)], 0)] } 100 = .nil := by rfl
theorem ex31_b : verF ex31 { Bound := -1, Nogoods := [] } 100 = .no 13 := by rfl
theorem ex31_sh : ShT ex31 := ⟨by show _ ≤ _; decide, by show _ ≤ _; decide, by show _ ≤ _; decide, by show _ ≤ _; decide, fun o ho => by cases ho⟩
theorem awake_eq (g : Nat) (hg : 70 ≤ g) : M_stratagemlaw31_awake g = some true := by
  rw [M_stratagemlaw31_awake]
  have h1 := verify_eq ex31 ex31_sh { Bound := -1, Nogoods := [([(0, 1)], 0)] } ⟨by show _ ≤ _; decide, fun n hn => by rw [List.mem_singleton.1 hn]; show _ ≤ _; decide⟩ 100 g hg
  have h2 := verify_eq ex31 ex31_sh { Bound := -1, Nogoods := [] } ⟨by show _ ≤ _; decide, fun n hn => by cases hn⟩ 100 g hg
  rw [ex31_a] at h1
  rw [ex31_b] at h2
  unfold ex31 at h1 h2
  rw [h1, ob1_some]
  show ob1 (M_checker_Verify g _ _ 100) _ = _
  rw [h2]
  rfl
end Go.Proofs.YtcpajbglcgbolaaGreat.Am
/- Models printed by my decompiler, and the proofs that the code computes them. -/
namespace Go.Proofs.YtcpajbglcgbolaaGreat.Am
open Go.RowKit
theorem ci_XDErr {p K : Prop} (k : K) (h : p := by first | rfl | exact ⟨rfl, rfl⟩ | exact BW.fr FrV.h | (refine BW.fr ?_; assumption) | (refine ⟨rfl, ?_⟩; (simp [cGTask, cI, cF, cGOp, cGEffect, cGCertificate, cN, take_len_map]; done)) | (refine RowK.same ?_ FrI.h; first | rfl | (simp [cGTask, cI, cF, cGOp, cGEffect, cGCertificate, cN, take_len_map]; done)) | (refine row_part1 ?_; (repeat (first | exact BWL.nil | exact bwll_nil | exact bw_c | exact BW.sl | exact BW.nil | exact bwll_same rfl FrI.h | refine BWL.cons ?_ ?_ | refine bwll_cons ?_ ?_ | (refine bw_own3 rfl rfl rfl FrI.h ?_ ?_ ?_) | exact BW.fr FrV.h | exact BW.fr (by assumption) | refine bw_agg ?_ | refine bw_clo ?_ | refine bw_ptr rfl rfl rfl ?_ | (refine bw_own rfl rfl rfl ?_ FrI.h ?_ ?_) | assumption | omega | rfl | (rw [List.length_map, ← List.length_append]; assumption) | (refine bwll_same ?_ FrI.h; (simp [cGTask, cI, cF, cGOp, cGEffect, cGCertificate, cN] <;> fail)) | (rw [List.map_set]; refine bwll_set (by first | rfl | omega | simp) ?_ ?_) | refine bwll_set (by first | rfl | omega | simp) ?_ ?_ | (rw [List.map_replicate]; refine bwll_rep ?_) | refine bwll_rep ?_ | (rw [List.map_append]; refine bwll_append ?_ ?_) | refine bwll_append ?_ ?_ | (simp [cGTask, cI, cF, cGOp, cGEffect, cGCertificate, cN, take_len_map] <;> fail) | (rw [List.drop_zero, List.take_of_length_le] <;> first | rfl | (simp [cGTask, cI, cF, cGOp, cGEffect, cGCertificate, cN] <;> fail)) | (simp; omega))); done) | ((repeat (first | exact BWL.nil | exact bwll_nil | exact bw_c | exact BW.sl | exact BW.nil | exact bwll_same rfl FrI.h | refine BWL.cons ?_ ?_ | refine bwll_cons ?_ ?_ | (refine bw_own3 rfl rfl rfl FrI.h ?_ ?_ ?_) | exact BW.fr FrV.h | exact BW.fr (by assumption) | refine bw_agg ?_ | refine bw_clo ?_ | refine bw_ptr rfl rfl rfl ?_ | (refine bw_own rfl rfl rfl ?_ FrI.h ?_ ?_) | assumption | omega | rfl | (rw [List.length_map, ← List.length_append]; assumption) | (refine bwll_same ?_ FrI.h; (simp [cGTask, cI, cF, cGOp, cGEffect, cGCertificate, cN] <;> fail)) | (rw [List.map_set]; refine bwll_set (by first | rfl | omega | simp) ?_ ?_) | refine bwll_set (by first | rfl | omega | simp) ?_ ?_ | (rw [List.map_replicate]; refine bwll_rep ?_) | refine bwll_rep ?_ | (rw [List.map_append]; refine bwll_append ?_ ?_) | refine bwll_append ?_ ?_ | (simp [cGTask, cI, cF, cGOp, cGEffect, cGCertificate, cN, take_len_map] <;> fail) | (rw [List.drop_zero, List.take_of_length_le] <;> first | rfl | (simp [cGTask, cI, cF, cGOp, cGEffect, cGCertificate, cN] <;> fail)) | (simp; omega))); done) | (simp [cGTask, cI, cF, cGOp, cGEffect, cGCertificate, cN, take_len_map]; done)) : p ∧ K := ⟨h, k⟩
theorem pr_XDErr {p K : Prop} (k : K) (h : p := by first | assumption | exact Int.natCast_nonneg _ | exact Nat.le_refl _ | exact Nat.zero_le _ | omega | (simp; done) | (simp; omega)) : p ∧ K := ⟨h, k⟩
theorem dr_XDErr {b : Bool} {p K : Prop} (k : K) (h : b = true → p := by intro h; first | (cases h; done) | exact ⟨by kernel_rfl, by kernel_rfl⟩) : (b = true → p) ∧ K := ⟨h, k⟩
theorem cl_XDErr {C : Cx} {n : Nat} {o : Oper} {τ : Nat → AV} {η : Nat → Ent} {f : FuncId} {os : Array Operand} {ats : Array TypeId} {r : AV} {args : List AV} {K : Foot → Prop} (ho : o.op = .call ⟨.value (.func f), os, ats⟩) (hc : ACall C f args r) (k : K ⟨r, [], []⟩)
    (hd : InB n o.dst := by exact Nat.le_of_ble_eq_true rfl) (hargs : os.toList.map (evA τ) = args := by first | rfl | (simp [cGTask, cI, cF, cGOp, cGEffect, cGCertificate, cN]; done)) (hfr : frs args := by repeat (first | exact trivial | exact fr1_eA _ | exact fr0_eA _ | exact fr1_fr (by assumption) | exact FrV.h | refine And.intro ?_ ?_)) (hr : fr1 r := by repeat (first | exact trivial | exact fr1_eA _ | exact fr0_eA _ | exact fr1_fr (by assumption) | exact FrV.h | refine And.intro ?_ ?_)) : ∃ f : Foot, LF C n o τ η f ∧ K f := ⟨_, lf_call ho hd hargs hc hfr hr, k⟩
theorem clb_XDErr {C : Cx} {n : Nat} {o : Oper} {τ : Nat → AV} {η : Nat → Ent} {f : FuncId} {os : Array Operand} {ats : Array TypeId} {r : AV} {xs ys : List AV} {K : Foot → Prop} (bs : List Nat) (ho : o.op = .call ⟨.value (.func f), os, ats⟩) (hargs : os.toList.map (evA τ) = xs) (hc : ACall C f ys r) (k : K ⟨r, [], bs⟩)
    (hd : InB n o.dst := by exact Nat.le_of_ble_eq_true rfl) (hb : BWL η (dropB η bs) xs ys := by repeat (first | exact BWL.nil | exact bwll_nil | exact bw_c | exact BW.sl | exact BW.nil | exact bwll_same rfl FrI.h | refine BWL.cons ?_ ?_ | refine bwll_cons ?_ ?_ | (refine bw_own3 rfl rfl rfl FrI.h ?_ ?_ ?_) | exact BW.fr FrV.h | exact BW.fr (by assumption) | refine bw_agg ?_ | refine bw_clo ?_ | refine bw_ptr rfl rfl rfl ?_ | (refine bw_own rfl rfl rfl ?_ FrI.h ?_ ?_) | assumption | omega | rfl | (rw [List.length_map, ← List.length_append]; assumption) | (refine bwll_same ?_ FrI.h; (simp [cGTask, cI, cF, cGOp, cGEffect, cGCertificate, cN] <;> fail)) | (rw [List.map_set]; refine bwll_set (by first | rfl | omega | simp) ?_ ?_) | refine bwll_set (by first | rfl | omega | simp) ?_ ?_ | (rw [List.map_replicate]; refine bwll_rep ?_) | refine bwll_rep ?_ | (rw [List.map_append]; refine bwll_append ?_ ?_) | refine bwll_append ?_ ?_ | (simp [cGTask, cI, cF, cGOp, cGEffect, cGCertificate, cN, take_len_map] <;> fail) | (rw [List.drop_zero, List.take_of_length_le] <;> first | rfl | (simp [cGTask, cI, cF, cGOp, cGEffect, cGCertificate, cN] <;> fail)) | (simp; omega))) (hr : scal r := by repeat (first | exact trivial | exact scal0_eA _ | exact scal_eA _ | refine And.intro ?_ ?_)) : ∃ f : Foot, LF C n o τ η f ∧ K f := ⟨_, lf_callB bs ho hd hargs hb hc hr, k⟩
def M_stratagemref05_large_L1 (y69 : GOp) : Nat → Bool → Int → Option (Bool)
  | 0, _, _ => none
  | k78 + 1, v76, v77 =>
    sel (decide (v77 < ((y69.Effs.map cGEffect).length : Int)))
     (ix y69.Effs v77 (fun y79 =>
       sel v76
        (M_stratagemref05_large_L1 y69 k78 true (IntKind.i64.wrap (v77 + 1)))
        (M_stratagemref05_large_L1 y69 k78 (decide (((y79.When.map cF).length : Int) > 64)) (IntKind.i64.wrap (v77 + 1)))))
     (some v76)
def M_stratagemref05_large_L2 (a0 : GTask) : Nat → Bool → Int → Option (Bool)
  | 0, _, _ => none
  | k55 + 1, v53, v54 =>
    sel (decide (v54 < ((a0.Ops.map cGOp).length : Int)))
     (ob1 (ix a0.Ops v54 (fun y69 =>
        ob1 (sel v53
          (some true)
          (sel (decide (((y69.Pre.map cF).length : Int) > 64))
            (some true)
            (some (decide (((y69.Effs.map cGEffect).length : Int) > 64)))) : Option (Bool))
         (fun v70 => M_stratagemref05_large_L1 y69 ((((y69.Effs.map cGEffect).length : Int)).toNat + 1) v70 0)) : Option (Bool))
       (fun v67 => M_stratagemref05_large_L2 a0 k55 v67 (IntKind.i64.wrap (v54 + 1))))
     (some v53)
def M_stratagemref05_large (a0 : GTask) : Option (Bool) :=
  ob1 (sel (decide (((a0.Vars.map cI).length : Int) > 64))
    (some true)
    (sel (decide (((a0.Ops.map cGOp).length : Int) > 4096))
      (some true)
      (some (decide (((a0.Goal.map cF).length : Int) > 64)))) : Option (Bool))
   (fun v1 => M_stratagemref05_large_L2 a0 ((((a0.Ops.map cGOp).length : Int)).toNat + 1) v1 0)
set_option maxHeartbeats 16000000 in
set_option maxRecDepth 100000 in
theorem A_stratagemref05_large (a0 : GTask) {r1 : Bool} (h : M_stratagemref05_large a0 = some r1) : ACall cx 41 [.agg [.sl 1 (a0.Vars.map cI), .sl 1 (a0.Init.map cI), .sl 2 (a0.Goal.map cF), .sl 4 (a0.Ops.map cGOp)]] (.c (.bool r1)) := by
  refine acall_of Tryz.func41 rfl (by decide) rfl (Nat.le_of_ble_eq_true rfl) ?_; intro _; unfold M_stratagemref05_large at h; refine awp_seq ?_; refine awp_region ?_; intro _; refine dr_XDErr ?_; obtain ⟨o1, h, hK2⟩ := ob1_ok h; refine awp_cut (α := Bool) (fun v1 => mkS 61 [(1, .ptr 1 0 0 0), (3, .c (.bool v1))] [(1, ⟨26, 4, true, [[.sl 1 (a0.Vars.map cI), .sl 1 (a0.Init.map cI), .sl 2 (a0.Goal.map cF), .sl 4 (a0.Ops.map cGOp)]]⟩)]) (fun v => o1 = v) ?_ ?_
  · refine awp_region ?_; intro _; refine spf h (fun c3 h => ?_) (fun c3 h => ?_)
    · intro _; refine spf h (fun c4 h => ?_) (fun c4 h => ?_)
      · intro _; refine dr_XDErr ?_; refine ⟨(decide (((a0.Goal.map cF).length : Int) > 64)), (Option.some.inj h).symm, ?_⟩; repeat (first | exact True.intro | refine ci_XDErr ?_)
      · intro _; refine dr_XDErr ?_; refine ⟨true, (Option.some.inj h).symm, ?_⟩; repeat (first | exact True.intro | refine ci_XDErr ?_)
    · intro _; refine dr_XDErr ?_; refine ⟨true, (Option.some.inj h).symm, ?_⟩; repeat (first | exact True.intro | refine ci_XDErr ?_)
  · rintro v1 ho; have ho := ho.symm; subst ho; intro _; replace h := hK2; refine awp_seq ?_; refine awp_seq ?_; refine awp_region ?_; intro _; refine dr_XDErr ?_; refine awp_block ?_; refine awp_loop (α := Nat × Bool × Int) (fun x => mkS 61 [(3, .c (.bool x.2.1)), (25, .sl 4 (a0.Ops.map cGOp)), (26, .c (.int .i64 ((a0.Ops.map cGOp).length : Int))), (27, .c (.int .i64 x.2.2))] []) (fun x => M_stratagemref05_large_L2 a0 x.1 x.2.1 x.2.2 = some r1) (fun x => x.1) ((((a0.Ops.map cGOp).length : Int)).toNat + 1, v1, 0) h ?_ ?_
    · repeat (first | exact True.intro | refine ci_XDErr ?_)
    · intro x5 h; intro _; obtain ⟨k55, m6, h⟩ := succ_of (f := fun n => M_stratagemref05_large_L2 a0 n x5.2.1 x5.2.2) rfl h; replace h : M_stratagemref05_large_L2 a0 (k55 + 1) x5.2.1 x5.2.2 = some r1 := h; rw [M_stratagemref05_large_L2] at h; refine awp_seq ?_; refine awp_region ?_; intro _; refine dr_XDErr ?_; refine awp_seq ?_; refine awp_cond ?_; intro _; refine spl h (fun c7 h => ?_) (fun c7 h => ?_)
      · refine awp_skip ?_; obtain ⟨o8, h, hK9⟩ := ob1_ok h; refine awp_cut (α := Bool) (fun v67 => mkS 61 [(3, .c (.bool v67)), (25, .sl 4 (a0.Ops.map cGOp)), (26, .c (.int .i64 ((a0.Ops.map cGOp).length : Int))), (27, .c (.int .i64 x5.2.2))] []) (fun v => o8 = v) ?_ ?_
        · refine awp_block ?_; refine awp_seq ?_; refine awp_region ?_; intro _; obtain ⟨y69, w10, q11, h⟩ := ix_ok h; refine Exists.intro (cGOp y69) (And.intro (map_at' w10) ?_); intro _; refine pr_XDErr ?_; refine dr_XDErr ?_; obtain ⟨o12, h, hK13⟩ := ob1_ok h; refine awp_cut (α := Bool) (fun v70 => mkS 61 [(3, .c (.bool v70)), (5, .ptr 5 0 0 0), (25, .sl 4 (a0.Ops.map cGOp)), (26, .c (.int .i64 ((a0.Ops.map cGOp).length : Int))), (27, .c (.int .i64 x5.2.2))] [(5, ⟨59, 4, true, [[.c (.string y69.Name), .c (.int .i64 y69.Cost), .sl 2 (y69.Pre.map cF), .sl 3 (y69.Effs.map cGEffect)]]⟩)]) (fun v => o12 = v) ?_ ?_
          · refine awp_region ?_; intro _; refine spf h (fun c14 h => ?_) (fun c14 h => ?_)
            · intro _; refine spf h (fun c15 h => ?_) (fun c15 h => ?_)
              · intro _; refine dr_XDErr ?_; refine ⟨(decide (((y69.Effs.map cGEffect).length : Int) > 64)), (Option.some.inj h).symm, ?_⟩; repeat (first | exact True.intro | refine ci_XDErr ?_)
              · intro _; refine dr_XDErr ?_; refine ⟨true, (Option.some.inj h).symm, ?_⟩; repeat (first | exact True.intro | refine ci_XDErr ?_)
            · intro _; refine dr_XDErr ?_; refine ⟨true, (Option.some.inj h).symm, ?_⟩; repeat (first | exact True.intro | refine ci_XDErr ?_)
          · rintro v70 ho; have ho := ho.symm; subst ho; intro _; replace h := hK13; refine awp_seq ?_; refine awp_region ?_; intro _; refine dr_XDErr ?_; refine awp_block ?_; refine awp_loop (α := Nat × Bool × Int) (fun x => mkS 61 [(3, .c (.bool x.2.1)), (25, .sl 4 (a0.Ops.map cGOp)), (26, .c (.int .i64 ((a0.Ops.map cGOp).length : Int))), (27, .c (.int .i64 x5.2.2)), (45, .sl 3 (y69.Effs.map cGEffect)), (46, .c (.int .i64 ((y69.Effs.map cGEffect).length : Int))), (47, .c (.int .i64 x.2.2))] []) (fun x => M_stratagemref05_large_L1 y69 x.1 x.2.1 x.2.2 = some o8) (fun x => x.1) ((((y69.Effs.map cGEffect).length : Int)).toNat + 1, v70, 0) h ?_ ?_
            · repeat (first | exact True.intro | refine ci_XDErr ?_)
            · intro x16 h; intro _; obtain ⟨k78, m17, h⟩ := succ_of (f := fun n => M_stratagemref05_large_L1 y69 n x16.2.1 x16.2.2) rfl h; replace h : M_stratagemref05_large_L1 y69 (k78 + 1) x16.2.1 x16.2.2 = some o8 := h; rw [M_stratagemref05_large_L1] at h; refine awp_seq ?_; refine awp_region ?_; intro _; refine dr_XDErr ?_; refine awp_seq ?_; refine awp_cond ?_; intro _; refine spl h (fun c18 h => ?_) (fun c18 h => ?_)
              · refine awp_skip ?_; refine awp_seq ?_; refine awp_block ?_; refine awp_seq ?_; refine awp_region ?_; intro _; obtain ⟨y79, w19, q20, h⟩ := ix_ok h; refine Exists.intro (cGEffect y79) (And.intro (map_at' w19) ?_); intro _; refine pr_XDErr ?_; refine dr_XDErr ?_; refine awp_region ?_; intro _; refine spf h (fun c21 h => ?_) (fun c21 h => ?_)
                · intro _; refine dr_XDErr ?_; refine awp_region ?_; intro _; refine dr_XDErr ?_; refine ⟨(k78, (decide (((y79.When.map cF).length : Int) > 64)), (IntKind.i64.wrap (x16.2.2 + 1))), h, lt_of_succ m17, ?_⟩; repeat (first | exact True.intro | refine ci_XDErr ?_)
                · intro _; refine dr_XDErr ?_; refine awp_region ?_; intro _; refine dr_XDErr ?_; refine ⟨(k78, true, (IntKind.i64.wrap (x16.2.2 + 1))), h, lt_of_succ m17, ?_⟩; repeat (first | exact True.intro | refine ci_XDErr ?_)
              · refine awp_exit ?_; refine ⟨x16.2.1, (Option.some.inj h).symm, ?_⟩; repeat (first | exact True.intro | refine ci_XDErr ?_)
        · rintro v67 ho; have ho := ho.symm; subst ho; intro _; replace h := hK9; refine awp_region ?_; intro _; refine dr_XDErr ?_; refine ⟨(k55, v67, (IntKind.i64.wrap (x5.2.2 + 1))), h, lt_of_succ m6, ?_⟩; repeat (first | exact True.intro | refine ci_XDErr ?_)
      · refine awp_exit ?_; refine awp_seq ?_; refine awp_region ?_; intro _; refine dr_XDErr ?_; refine awp_ret ?_; intro _; obtain rfl := inj1 h; repeat (first | exact True.intro | refine ci_XDErr ?_)
def M_stratagemref05_outside_L1 (a0 : GTask) : Nat → Bool → Int → Option (Bool)
  | 0, _, _ => none
  | k17 + 1, v15, v16 =>
    sel (decide (v16 < ((a0.Vars.map cI).length : Int)))
     (ix a0.Vars v16 (fun y18 =>
       sel v15
        (M_stratagemref05_outside_L1 a0 k17 true (IntKind.i64.wrap (v16 + 1)))
        (sel (decide (y18 < 1))
          (M_stratagemref05_outside_L1 a0 k17 true (IntKind.i64.wrap (v16 + 1)))
          (M_stratagemref05_outside_L1 a0 k17 (decide (y18 > 64)) (IntKind.i64.wrap (v16 + 1))))))
     (some v15)
def M_stratagemref05_outside_L2 (a0 : GTask) : Nat → Bool → Int → Option (Bool)
  | 0, _, _ => none
  | k25 + 1, v23, v24 =>
    sel (decide (v24 < ((a0.Ops.map cGOp).length : Int)))
     (ix a0.Ops v24 (fun y26 =>
       sel v23
        (M_stratagemref05_outside_L2 a0 k25 true (IntKind.i64.wrap (v24 + 1)))
        (sel (decide (y26.Cost < 0))
          (M_stratagemref05_outside_L2 a0 k25 true (IntKind.i64.wrap (v24 + 1)))
          (M_stratagemref05_outside_L2 a0 k25 (decide (y26.Cost > 1048576)) (IntKind.i64.wrap (v24 + 1))))))
     (some v23)
def M_stratagemref05_outside (a0 : GTask) : Option (Bool) :=
  ob1 (M_stratagemref05_outside_L1 a0 ((((a0.Vars.map cI).length : Int)).toNat + 1) false 0 : Option (Bool))
   (fun v9 => M_stratagemref05_outside_L2 a0 ((((a0.Ops.map cGOp).length : Int)).toNat + 1) v9 0)
set_option maxHeartbeats 16000000 in
set_option maxRecDepth 100000 in
theorem A_stratagemref05_outside (a0 : GTask) {r1 : Bool} (h : M_stratagemref05_outside a0 = some r1) : ACall cx 42 [.agg [.sl 1 (a0.Vars.map cI), .sl 1 (a0.Init.map cI), .sl 2 (a0.Goal.map cF), .sl 4 (a0.Ops.map cGOp)]] (.c (.bool r1)) := by
  refine acall_of Tryz.func42 rfl (by decide) rfl (Nat.le_of_ble_eq_true rfl) ?_; intro _; unfold M_stratagemref05_outside at h; refine awp_seq ?_; refine awp_region ?_; intro _; refine dr_XDErr ?_; refine awp_seq ?_; refine awp_region ?_; intro _; refine dr_XDErr ?_; obtain ⟨o1, h, hK2⟩ := ob1_ok h; refine awp_cut (α := Bool) (fun v9 => mkS 45 [(1, .ptr 1 0 0 0), (3, .c (.bool v9))] [(1, ⟨26, 4, true, [[.sl 1 (a0.Vars.map cI), .sl 1 (a0.Init.map cI), .sl 2 (a0.Goal.map cF), .sl 4 (a0.Ops.map cGOp)]]⟩)]) (fun v => o1 = v) ?_ ?_
  · refine awp_seq ?_; refine awp_region ?_; intro _; refine dr_XDErr ?_; refine awp_block ?_; refine awp_loop (α := Nat × Bool × Int) (fun x => mkS 45 [(1, .ptr 1 0 0 0), (3, .c (.bool x.2.1)), (9, .sl 1 (a0.Vars.map cI)), (10, .c (.int .i64 ((a0.Vars.map cI).length : Int))), (11, .c (.int .i64 x.2.2))] [(1, ⟨26, 4, true, [[.sl 1 (a0.Vars.map cI), .sl 1 (a0.Init.map cI), .sl 2 (a0.Goal.map cF), .sl 4 (a0.Ops.map cGOp)]]⟩)]) (fun x => M_stratagemref05_outside_L1 a0 x.1 x.2.1 x.2.2 = some o1) (fun x => x.1) ((((a0.Vars.map cI).length : Int)).toNat + 1, false, 0) h ?_ ?_
    · repeat (first | exact True.intro | refine ci_XDErr ?_)
    · intro x3 h; intro _; obtain ⟨k17, m4, h⟩ := succ_of (f := fun n => M_stratagemref05_outside_L1 a0 n x3.2.1 x3.2.2) rfl h; replace h : M_stratagemref05_outside_L1 a0 (k17 + 1) x3.2.1 x3.2.2 = some o1 := h; rw [M_stratagemref05_outside_L1] at h; refine awp_seq ?_; refine awp_region ?_; intro _; refine dr_XDErr ?_; refine awp_seq ?_; refine awp_cond ?_; intro _; refine spl h (fun c5 h => ?_) (fun c5 h => ?_)
      · refine awp_skip ?_; refine awp_seq ?_; refine awp_block ?_; refine awp_seq ?_; refine awp_region ?_; intro _; obtain ⟨y18, w6, q7, h⟩ := ix_ok h; refine Exists.intro (cI y18) (And.intro (map_at' w6) ?_); intro _; refine pr_XDErr ?_; refine dr_XDErr ?_; refine awp_region ?_; intro _; refine spf h (fun c8 h => ?_) (fun c8 h => ?_)
        · intro _; refine spf h (fun c9 h => ?_) (fun c9 h => ?_)
          · intro _; refine dr_XDErr ?_; refine awp_region ?_; intro _; refine dr_XDErr ?_; refine ⟨(k17, (decide (y18 > 64)), (IntKind.i64.wrap (x3.2.2 + 1))), h, lt_of_succ m4, ?_⟩; repeat (first | exact True.intro | refine ci_XDErr ?_)
          · intro _; refine dr_XDErr ?_; refine awp_region ?_; intro _; refine dr_XDErr ?_; refine ⟨(k17, true, (IntKind.i64.wrap (x3.2.2 + 1))), h, lt_of_succ m4, ?_⟩; repeat (first | exact True.intro | refine ci_XDErr ?_)
        · intro _; refine dr_XDErr ?_; refine awp_region ?_; intro _; refine dr_XDErr ?_; refine ⟨(k17, true, (IntKind.i64.wrap (x3.2.2 + 1))), h, lt_of_succ m4, ?_⟩; repeat (first | exact True.intro | refine ci_XDErr ?_)
      · refine awp_exit ?_; refine ⟨x3.2.1, (Option.some.inj h).symm, ?_⟩; repeat (first | exact True.intro | refine ci_XDErr ?_)
  · rintro v9 ho; have ho := ho.symm; subst ho; intro _; replace h := hK2; refine awp_seq ?_; refine awp_seq ?_; refine awp_region ?_; intro _; refine dr_XDErr ?_; refine awp_block ?_; refine awp_loop (α := Nat × Bool × Int) (fun x => mkS 45 [(3, .c (.bool x.2.1)), (26, .sl 4 (a0.Ops.map cGOp)), (27, .c (.int .i64 ((a0.Ops.map cGOp).length : Int))), (28, .c (.int .i64 x.2.2))] []) (fun x => M_stratagemref05_outside_L2 a0 x.1 x.2.1 x.2.2 = some r1) (fun x => x.1) ((((a0.Ops.map cGOp).length : Int)).toNat + 1, v9, 0) h ?_ ?_
    · repeat (first | exact True.intro | refine ci_XDErr ?_)
    · intro x10 h; intro _; obtain ⟨k25, m11, h⟩ := succ_of (f := fun n => M_stratagemref05_outside_L2 a0 n x10.2.1 x10.2.2) rfl h; replace h : M_stratagemref05_outside_L2 a0 (k25 + 1) x10.2.1 x10.2.2 = some r1 := h; rw [M_stratagemref05_outside_L2] at h; refine awp_seq ?_; refine awp_region ?_; intro _; refine dr_XDErr ?_; refine awp_seq ?_; refine awp_cond ?_; intro _; refine spl h (fun c12 h => ?_) (fun c12 h => ?_)
      · refine awp_skip ?_; refine awp_seq ?_; refine awp_block ?_; refine awp_seq ?_; refine awp_region ?_; intro _; obtain ⟨y26, w13, q14, h⟩ := ix_ok h; refine Exists.intro (cGOp y26) (And.intro (map_at' w13) ?_); intro _; refine pr_XDErr ?_; refine dr_XDErr ?_; refine awp_region ?_; intro _; refine spf h (fun c15 h => ?_) (fun c15 h => ?_)
        · intro _; refine spf h (fun c16 h => ?_) (fun c16 h => ?_)
          · intro _; refine dr_XDErr ?_; refine awp_region ?_; intro _; refine dr_XDErr ?_; refine ⟨(k25, (decide (y26.Cost > 1048576)), (IntKind.i64.wrap (x10.2.2 + 1))), h, lt_of_succ m11, ?_⟩; repeat (first | exact True.intro | refine ci_XDErr ?_)
          · intro _; refine dr_XDErr ?_; refine awp_region ?_; intro _; refine dr_XDErr ?_; refine ⟨(k25, true, (IntKind.i64.wrap (x10.2.2 + 1))), h, lt_of_succ m11, ?_⟩; repeat (first | exact True.intro | refine ci_XDErr ?_)
        · intro _; refine dr_XDErr ?_; refine awp_region ?_; intro _; refine dr_XDErr ?_; refine ⟨(k25, true, (IntKind.i64.wrap (x10.2.2 + 1))), h, lt_of_succ m11, ?_⟩; repeat (first | exact True.intro | refine ci_XDErr ?_)
      · refine awp_exit ?_; refine awp_seq ?_; refine awp_region ?_; intro _; refine dr_XDErr ?_; refine awp_ret ?_; intro _; obtain rfl := inj1 h; repeat (first | exact True.intro | refine ci_XDErr ?_)
def M_stratagemref05_malformed_L1 (a0 : GTask) (y113 : GOp) : Nat → Bool → Int → Option (Bool)
  | 0, _, _ => none
  | k128 + 1, v126, v127 =>
    sel (decide (v127 < ((y113.Effs.map cGEffect).length : Int)))
     (ix y113.Effs v127 (fun y129 =>
       sel v126
        (M_stratagemref05_malformed_L1 a0 y113 k128 true (IntKind.i64.wrap (v127 + 1)))
        (ob1 (M_stratagembase_Proper a0.Vars y129.When) (fun z130 =>
          sel (!z130)
           (M_stratagemref05_malformed_L1 a0 y113 k128 true (IntKind.i64.wrap (v127 + 1)))
           (ob1 (M_stratagembase_Proper a0.Vars [(y129.Var, y129.Val)]) (fun z131 =>
             M_stratagemref05_malformed_L1 a0 y113 k128 (!z131) (IntKind.i64.wrap (v127 + 1))))))))
     (some v126)
def M_stratagemref05_malformed_L2 (a0 : GTask) : Nat → Bool → Int → Option (Bool)
  | 0, _, _ => none
  | k91 + 1, v89, v90 =>
    sel (decide (v90 < ((a0.Ops.map cGOp).length : Int)))
     (ob1 (ix a0.Ops v90 (fun y113 =>
        ob1 (sel v89
          (some true)
          (ob1 (M_stratagembase_Proper a0.Vars y113.Pre) (fun z117 =>
            some (!z117))) : Option (Bool))
         (fun v115 => M_stratagemref05_malformed_L1 a0 y113 ((((y113.Effs.map cGEffect).length : Int)).toNat + 1) v115 0)) : Option (Bool))
       (fun v111 => M_stratagemref05_malformed_L2 a0 k91 v111 (IntKind.i64.wrap (v90 + 1))))
     (some v89)
def M_stratagemref05_malformed (a0 : GTask) : Option (Bool) :=
  ob1 (ob1 (M_stratagembase_State a0.Vars a0.Init) (fun z5 =>
    sel (!z5)
     (some true)
     (ob1 (M_stratagembase_Proper a0.Vars a0.Goal) (fun z6 =>
       some (!z6)))) : Option (Bool))
   (fun v3 => M_stratagemref05_malformed_L2 a0 ((((a0.Ops.map cGOp).length : Int)).toNat + 1) v3 0)
set_option maxHeartbeats 16000000 in
set_option maxRecDepth 100000 in
theorem A_stratagemref05_malformed (a0 : GTask) {r1 : Bool} (h : M_stratagemref05_malformed a0 = some r1) : ACall cx 43 [.agg [.sl 1 (a0.Vars.map cI), .sl 1 (a0.Init.map cI), .sl 2 (a0.Goal.map cF), .sl 4 (a0.Ops.map cGOp)]] (.c (.bool r1)) := by
  refine acall_of Tryz.func43 rfl (by decide) rfl (Nat.le_of_ble_eq_true rfl) ?_; intro _; unfold M_stratagemref05_malformed at h; refine awp_seq ?_; refine awp_region ?_; intro _; refine dr_XDErr ?_; obtain ⟨o1, h, hK2⟩ := ob1_ok h; refine awp_cut (α := Bool) (fun v3 => mkS 69 [(1, .ptr 1 0 0 0), (3, .c (.bool v3))] [(1, ⟨26, 4, true, [[.sl 1 (a0.Vars.map cI), .sl 1 (a0.Init.map cI), .sl 2 (a0.Goal.map cF), .sl 4 (a0.Ops.map cGOp)]]⟩)]) (fun v => o1 = v) ?_ ?_
  · refine awp_region ?_; intro _; obtain ⟨z5, u3, h⟩ := ob1_ok h; refine cl_XDErr rfl (A_stratagembase_State a0.Vars a0.Init u3) ?_; intro _; refine spf h (fun c4 h => ?_) (fun c4 h => ?_)
    · intro _; obtain ⟨z6, u5, h⟩ := ob1_ok h; refine cl_XDErr rfl (A_stratagembase_Proper a0.Vars a0.Goal u5) ?_; intro _; refine dr_XDErr ?_; refine ⟨(!z6), (Option.some.inj h).symm, ?_⟩; repeat (first | exact True.intro | refine ci_XDErr ?_)
    · intro _; refine dr_XDErr ?_; refine ⟨true, (Option.some.inj h).symm, ?_⟩; repeat (first | exact True.intro | refine ci_XDErr ?_)
  · rintro v3 ho; have ho := ho.symm; subst ho; intro _; replace h := hK2; refine awp_seq ?_; refine awp_seq ?_; refine awp_region ?_; intro _; refine dr_XDErr ?_; refine awp_block ?_; refine awp_loop (α := Nat × Bool × Int) (fun x => mkS 69 [(1, .ptr 1 0 0 0), (3, .c (.bool x.2.1)), (23, .sl 4 (a0.Ops.map cGOp)), (24, .c (.int .i64 ((a0.Ops.map cGOp).length : Int))), (25, .c (.int .i64 x.2.2))] [(1, ⟨26, 4, true, [[.sl 1 (a0.Vars.map cI), .sl 1 (a0.Init.map cI), .sl 2 (a0.Goal.map cF), .sl 4 (a0.Ops.map cGOp)]]⟩)]) (fun x => M_stratagemref05_malformed_L2 a0 x.1 x.2.1 x.2.2 = some r1) (fun x => x.1) ((((a0.Ops.map cGOp).length : Int)).toNat + 1, v3, 0) h ?_ ?_
    · repeat (first | exact True.intro | refine ci_XDErr ?_)
    · intro x6 h; intro _; obtain ⟨k91, m7, h⟩ := succ_of (f := fun n => M_stratagemref05_malformed_L2 a0 n x6.2.1 x6.2.2) rfl h; replace h : M_stratagemref05_malformed_L2 a0 (k91 + 1) x6.2.1 x6.2.2 = some r1 := h; rw [M_stratagemref05_malformed_L2] at h; refine awp_seq ?_; refine awp_region ?_; intro _; refine dr_XDErr ?_; refine awp_seq ?_; refine awp_cond ?_; intro _; refine spl h (fun c8 h => ?_) (fun c8 h => ?_)
      · refine awp_skip ?_; obtain ⟨o9, h, hK10⟩ := ob1_ok h; refine awp_cut (α := Bool) (fun v111 => mkS 69 [(1, .ptr 1 0 0 0), (3, .c (.bool v111)), (23, .sl 4 (a0.Ops.map cGOp)), (24, .c (.int .i64 ((a0.Ops.map cGOp).length : Int))), (25, .c (.int .i64 x6.2.2))] [(1, ⟨26, 4, true, [[.sl 1 (a0.Vars.map cI), .sl 1 (a0.Init.map cI), .sl 2 (a0.Goal.map cF), .sl 4 (a0.Ops.map cGOp)]]⟩)]) (fun v => o9 = v) ?_ ?_
        · refine awp_block ?_; refine awp_seq ?_; refine awp_region ?_; intro _; obtain ⟨y113, w11, q12, h⟩ := ix_ok h; refine Exists.intro (cGOp y113) (And.intro (map_at' w11) ?_); intro _; refine pr_XDErr ?_; refine dr_XDErr ?_; obtain ⟨o13, h, hK14⟩ := ob1_ok h; refine awp_cut (α := Bool) (fun v115 => mkS 69 [(1, .ptr 1 0 0 0), (3, .c (.bool v115)), (5, .ptr 5 0 0 0), (23, .sl 4 (a0.Ops.map cGOp)), (24, .c (.int .i64 ((a0.Ops.map cGOp).length : Int))), (25, .c (.int .i64 x6.2.2))] [(1, ⟨26, 4, true, [[.sl 1 (a0.Vars.map cI), .sl 1 (a0.Init.map cI), .sl 2 (a0.Goal.map cF), .sl 4 (a0.Ops.map cGOp)]]⟩), (5, ⟨59, 4, true, [[.c (.string y113.Name), .c (.int .i64 y113.Cost), .sl 2 (y113.Pre.map cF), .sl 3 (y113.Effs.map cGEffect)]]⟩)]) (fun v => o13 = v) ?_ ?_
          · refine awp_region ?_; intro _; refine spf h (fun c15 h => ?_) (fun c15 h => ?_)
            · intro _; obtain ⟨z117, u16, h⟩ := ob1_ok h; refine cl_XDErr rfl (A_stratagembase_Proper a0.Vars y113.Pre u16) ?_; intro _; refine dr_XDErr ?_; refine ⟨(!z117), (Option.some.inj h).symm, ?_⟩; repeat (first | exact True.intro | refine ci_XDErr ?_)
            · intro _; refine dr_XDErr ?_; refine ⟨true, (Option.some.inj h).symm, ?_⟩; repeat (first | exact True.intro | refine ci_XDErr ?_)
          · rintro v115 ho; have ho := ho.symm; subst ho; intro _; replace h := hK14; refine awp_seq ?_; refine awp_region ?_; intro _; refine dr_XDErr ?_; refine awp_block ?_; refine awp_loop (α := Nat × Bool × Int) (fun x => mkS 69 [(1, .ptr 1 0 0 0), (3, .c (.bool x.2.1)), (23, .sl 4 (a0.Ops.map cGOp)), (24, .c (.int .i64 ((a0.Ops.map cGOp).length : Int))), (25, .c (.int .i64 x6.2.2)), (39, .sl 3 (y113.Effs.map cGEffect)), (40, .c (.int .i64 ((y113.Effs.map cGEffect).length : Int))), (41, .c (.int .i64 x.2.2))] [(1, ⟨26, 4, true, [[.sl 1 (a0.Vars.map cI), .sl 1 (a0.Init.map cI), .sl 2 (a0.Goal.map cF), .sl 4 (a0.Ops.map cGOp)]]⟩)]) (fun x => M_stratagemref05_malformed_L1 a0 y113 x.1 x.2.1 x.2.2 = some o9) (fun x => x.1) ((((y113.Effs.map cGEffect).length : Int)).toNat + 1, v115, 0) h ?_ ?_
            · repeat (first | exact True.intro | refine ci_XDErr ?_)
            · intro x17 h; intro _; obtain ⟨k128, m18, h⟩ := succ_of (f := fun n => M_stratagemref05_malformed_L1 a0 y113 n x17.2.1 x17.2.2) rfl h; replace h : M_stratagemref05_malformed_L1 a0 y113 (k128 + 1) x17.2.1 x17.2.2 = some o9 := h; rw [M_stratagemref05_malformed_L1] at h; refine awp_seq ?_; refine awp_region ?_; intro _; refine dr_XDErr ?_; refine awp_seq ?_; refine awp_cond ?_; intro _; refine spl h (fun c19 h => ?_) (fun c19 h => ?_)
              · refine awp_skip ?_; refine awp_seq ?_; refine awp_block ?_; refine awp_seq ?_; refine awp_region ?_; intro _; obtain ⟨y129, w20, q21, h⟩ := ix_ok h; refine Exists.intro (cGEffect y129) (And.intro (map_at' w20) ?_); intro _; refine pr_XDErr ?_; refine dr_XDErr ?_; refine awp_region ?_; intro _; refine spf h (fun c22 h => ?_) (fun c22 h => ?_)
                · intro _; obtain ⟨z130, u23, h⟩ := ob1_ok h; refine cl_XDErr rfl (A_stratagembase_Proper a0.Vars y129.When u23) ?_; intro _; refine spf h (fun c24 h => ?_) (fun c24 h => ?_)
                  · intro _; obtain ⟨z131, u25, h⟩ := ob1_ok h; refine clb_XDErr [62] rfl rfl (A_stratagembase_Proper a0.Vars [(y129.Var, y129.Val)] u25) ?_; intro _; refine dr_XDErr ?_; refine awp_region ?_; intro _; refine dr_XDErr ?_; refine ⟨(k128, (!z131), (IntKind.i64.wrap (x17.2.2 + 1))), h, lt_of_succ m18, ?_⟩; repeat (first | exact True.intro | refine ci_XDErr ?_)
                  · intro _; refine dr_XDErr ?_; refine awp_region ?_; intro _; refine dr_XDErr ?_; refine ⟨(k128, true, (IntKind.i64.wrap (x17.2.2 + 1))), h, lt_of_succ m18, ?_⟩; repeat (first | exact True.intro | refine ci_XDErr ?_)
                · intro _; refine dr_XDErr ?_; refine awp_region ?_; intro _; refine dr_XDErr ?_; refine ⟨(k128, true, (IntKind.i64.wrap (x17.2.2 + 1))), h, lt_of_succ m18, ?_⟩; repeat (first | exact True.intro | refine ci_XDErr ?_)
              · refine awp_exit ?_; refine ⟨x17.2.1, (Option.some.inj h).symm, ?_⟩; repeat (first | exact True.intro | refine ci_XDErr ?_)
        · rintro v111 ho; have ho := ho.symm; subst ho; intro _; replace h := hK10; refine awp_region ?_; intro _; refine dr_XDErr ?_; refine ⟨(k91, v111, (IntKind.i64.wrap (x6.2.2 + 1))), h, lt_of_succ m7, ?_⟩; repeat (first | exact True.intro | refine ci_XDErr ?_)
      · refine awp_exit ?_; refine awp_seq ?_; refine awp_region ?_; intro _; refine dr_XDErr ?_; refine awp_ret ?_; intro _; obtain rfl := inj1 h; repeat (first | exact True.intro | refine ci_XDErr ?_)
def M_stratagemref05_misnamed_L1 (y57 : GOp) : Nat → Bool → Int → Option (Bool)
  | 0, _, _ => none
  | k64 + 1, v62, v63 =>
    sel (decide (v63 < (y57.Name.size : Int)))
     (sel v62
       (M_stratagemref05_misnamed_L1 y57 k64 true (IntKind.i64.wrap (v63 + 1)))
       (sel (decide ((byt y57.Name v63) < 32))
         (grd (0 ≤ v63) (grd (v63 < (y57.Name.size : Int)) (M_stratagemref05_misnamed_L1 y57 k64 true (IntKind.i64.wrap (v63 + 1)))))
         (grd (0 ≤ v63) (grd (v63 < (y57.Name.size : Int)) (M_stratagemref05_misnamed_L1 y57 k64 (decide ((byt y57.Name v63) > 126)) (IntKind.i64.wrap (v63 + 1)))))))
     (some v62)
def M_stratagemref05_misnamed_L2 (a0 : GTask) : Nat → Bool → Int → Option (Bool)
  | 0, _, _ => none
  | k46 + 1, v44, v45 =>
    sel (decide (v45 < ((a0.Ops.map cGOp).length : Int)))
     (ob1 (ix a0.Ops v45 (fun y57 =>
        ob1 (sel v44
          (some true)
          (some (decide ((y57.Name.size : Int) > 256))) : Option (Bool))
         (fun v58 => M_stratagemref05_misnamed_L1 y57 (((y57.Name.size : Int)).toNat + 1) v58 0)) : Option (Bool))
       (fun v55 => M_stratagemref05_misnamed_L2 a0 k46 v55 (IntKind.i64.wrap (v45 + 1))))
     (some v44)
def M_stratagemref05_misnamed (a0 : GTask) : Option (Bool) :=
  M_stratagemref05_misnamed_L2 a0 ((((a0.Ops.map cGOp).length : Int)).toNat + 1) false 0
set_option maxHeartbeats 16000000 in
set_option maxRecDepth 100000 in
theorem A_stratagemref05_misnamed (a0 : GTask) {r1 : Bool} (h : M_stratagemref05_misnamed a0 = some r1) : ACall cx 44 [.agg [.sl 1 (a0.Vars.map cI), .sl 1 (a0.Init.map cI), .sl 2 (a0.Goal.map cF), .sl 4 (a0.Ops.map cGOp)]] (.c (.bool r1)) := by
  refine acall_of Tryz.func44 rfl (by decide) rfl (Nat.le_of_ble_eq_true rfl) ?_; intro _; unfold M_stratagemref05_misnamed at h; refine awp_seq ?_; refine awp_region ?_; intro _; refine dr_XDErr ?_; refine awp_seq ?_; refine awp_region ?_; intro _; refine dr_XDErr ?_; refine awp_seq ?_; refine awp_seq ?_; refine awp_region ?_; intro _; refine dr_XDErr ?_; refine awp_block ?_; refine awp_loop (α := Nat × Bool × Int) (fun x => mkS 45 [(3, .c (.bool x.2.1)), (8, .sl 4 (a0.Ops.map cGOp)), (9, .c (.int .i64 ((a0.Ops.map cGOp).length : Int))), (10, .c (.int .i64 x.2.2))] []) (fun x => M_stratagemref05_misnamed_L2 a0 x.1 x.2.1 x.2.2 = some r1) (fun x => x.1) ((((a0.Ops.map cGOp).length : Int)).toNat + 1, false, 0) h ?_ ?_
  · repeat (first | exact True.intro | refine ci_XDErr ?_)
  · intro x1 h; intro _; obtain ⟨k46, m2, h⟩ := succ_of (f := fun n => M_stratagemref05_misnamed_L2 a0 n x1.2.1 x1.2.2) rfl h; replace h : M_stratagemref05_misnamed_L2 a0 (k46 + 1) x1.2.1 x1.2.2 = some r1 := h; rw [M_stratagemref05_misnamed_L2] at h; refine awp_seq ?_; refine awp_region ?_; intro _; refine dr_XDErr ?_; refine awp_seq ?_; refine awp_cond ?_; intro _; refine spl h (fun c3 h => ?_) (fun c3 h => ?_)
    · refine awp_skip ?_; obtain ⟨o4, h, hK5⟩ := ob1_ok h; refine awp_cut (α := Bool) (fun v55 => mkS 45 [(3, .c (.bool v55)), (8, .sl 4 (a0.Ops.map cGOp)), (9, .c (.int .i64 ((a0.Ops.map cGOp).length : Int))), (10, .c (.int .i64 x1.2.2))] []) (fun v => o4 = v) ?_ ?_
      · refine awp_block ?_; refine awp_seq ?_; refine awp_region ?_; intro _; obtain ⟨y57, w6, q7, h⟩ := ix_ok h; refine Exists.intro (cGOp y57) (And.intro (map_at' w6) ?_); intro _; refine pr_XDErr ?_; refine dr_XDErr ?_; obtain ⟨o8, h, hK9⟩ := ob1_ok h; refine awp_cut (α := Bool) (fun v58 => mkS 45 [(3, .c (.bool v58)), (5, .ptr 5 0 0 0), (8, .sl 4 (a0.Ops.map cGOp)), (9, .c (.int .i64 ((a0.Ops.map cGOp).length : Int))), (10, .c (.int .i64 x1.2.2))] [(5, ⟨59, 4, true, [[.c (.string y57.Name), .c (.int .i64 y57.Cost), .sl 2 (y57.Pre.map cF), .sl 3 (y57.Effs.map cGEffect)]]⟩)]) (fun v => o8 = v) ?_ ?_
        · refine awp_region ?_; intro _; refine spf h (fun c10 h => ?_) (fun c10 h => ?_)
          · intro _; refine dr_XDErr ?_; refine ⟨(decide ((y57.Name.size : Int) > 256)), (Option.some.inj h).symm, ?_⟩; repeat (first | exact True.intro | refine ci_XDErr ?_)
          · intro _; refine dr_XDErr ?_; refine ⟨true, (Option.some.inj h).symm, ?_⟩; repeat (first | exact True.intro | refine ci_XDErr ?_)
        · rintro v58 ho; have ho := ho.symm; subst ho; intro _; replace h := hK9; refine awp_seq ?_; refine awp_region ?_; intro _; refine dr_XDErr ?_; refine awp_block ?_; refine awp_loop (α := Nat × Bool × Int) (fun x => mkS 45 [(3, .c (.bool x.2.1)), (5, .ptr 5 0 0 0), (8, .sl 4 (a0.Ops.map cGOp)), (9, .c (.int .i64 ((a0.Ops.map cGOp).length : Int))), (10, .c (.int .i64 x1.2.2)), (23, .c (.int .i64 (y57.Name.size : Int))), (24, .c (.int .i64 x.2.2))] [(5, ⟨59, 4, true, [[.c (.string y57.Name), .c (.int .i64 y57.Cost), .sl 2 (y57.Pre.map cF), .sl 3 (y57.Effs.map cGEffect)]]⟩)]) (fun x => M_stratagemref05_misnamed_L1 y57 x.1 x.2.1 x.2.2 = some o4) (fun x => x.1) (((y57.Name.size : Int)).toNat + 1, v58, 0) h ?_ ?_
          · repeat (first | exact True.intro | refine ci_XDErr ?_)
          · intro x11 h; intro _; obtain ⟨k64, m12, h⟩ := succ_of (f := fun n => M_stratagemref05_misnamed_L1 y57 n x11.2.1 x11.2.2) rfl h; replace h : M_stratagemref05_misnamed_L1 y57 (k64 + 1) x11.2.1 x11.2.2 = some o4 := h; rw [M_stratagemref05_misnamed_L1] at h; refine awp_seq ?_; refine awp_region ?_; intro _; refine dr_XDErr ?_; refine awp_seq ?_; refine awp_cond ?_; intro _; refine spl h (fun c13 h => ?_) (fun c13 h => ?_)
            · refine awp_skip ?_; refine awp_seq ?_; refine awp_block ?_; refine awp_seq ?_; refine awp_region ?_; intro _; refine dr_XDErr ?_; refine awp_region ?_; intro _; refine spf h (fun c14 h => ?_) (fun c14 h => ?_)
              · intro _; refine spf h (fun c15 h => ?_) (fun c15 h => ?_)
                · intro _; obtain ⟨q16, h⟩ := grd_ok h; obtain ⟨q17, h⟩ := grd_ok h; refine pr_XDErr ?_; refine pr_XDErr ?_; refine pr_XDErr ?_; refine pr_XDErr ?_; refine dr_XDErr ?_; refine awp_region ?_; intro _; refine dr_XDErr ?_; refine ⟨(k64, (decide ((byt y57.Name x11.2.2) > 126)), (IntKind.i64.wrap (x11.2.2 + 1))), h, lt_of_succ m12, ?_⟩; repeat (first | exact True.intro | refine ci_XDErr ?_)
                · intro _; obtain ⟨q18, h⟩ := grd_ok h; obtain ⟨q19, h⟩ := grd_ok h; refine pr_XDErr ?_; refine pr_XDErr ?_; refine dr_XDErr ?_; refine awp_region ?_; intro _; refine dr_XDErr ?_; refine ⟨(k64, true, (IntKind.i64.wrap (x11.2.2 + 1))), h, lt_of_succ m12, ?_⟩; repeat (first | exact True.intro | refine ci_XDErr ?_)
              · intro _; refine dr_XDErr ?_; refine awp_region ?_; intro _; refine dr_XDErr ?_; refine ⟨(k64, true, (IntKind.i64.wrap (x11.2.2 + 1))), h, lt_of_succ m12, ?_⟩; repeat (first | exact True.intro | refine ci_XDErr ?_)
            · refine awp_exit ?_; refine ⟨x11.2.1, (Option.some.inj h).symm, ?_⟩; repeat (first | exact True.intro | refine ci_XDErr ?_)
      · rintro v55 ho; have ho := ho.symm; subst ho; intro _; replace h := hK5; refine awp_region ?_; intro _; refine dr_XDErr ?_; refine ⟨(k46, v55, (IntKind.i64.wrap (x1.2.2 + 1))), h, lt_of_succ m2, ?_⟩; repeat (first | exact True.intro | refine ci_XDErr ?_)
    · refine awp_exit ?_; refine awp_seq ?_; refine awp_region ?_; intro _; refine dr_XDErr ?_; refine awp_ret ?_; intro _; obtain rfl := inj1 h; repeat (first | exact True.intro | refine ci_XDErr ?_)
def M_stratagemref05_Check (a0 : GTask) : Option (Int) :=
  ob1 (M_stratagemref05_large a0) (fun z1 =>
   sel z1
    (some 5)
    (ob1 (M_stratagemref05_outside a0) (fun z2 =>
      sel z2
       (some 1)
       (ob1 (M_stratagemref05_malformed a0) (fun z3 =>
         sel z3
          (some 2)
          (ob1 (M_stratagemref05_misnamed a0) (fun z4 =>
            sel z4
             (some 8)
             (some 0))))))))
set_option maxHeartbeats 16000000 in
set_option maxRecDepth 100000 in
theorem A_stratagemref05_Check (a0 : GTask) {r1 : Int} (h : M_stratagemref05_Check a0 = some r1) : ACall cx 24 [.agg [.sl 1 (a0.Vars.map cI), .sl 1 (a0.Init.map cI), .sl 2 (a0.Goal.map cF), .sl 4 (a0.Ops.map cGOp)]] (.c (.int .i64 r1)) := by
  refine acall_of Tryz.func24 rfl (by decide) rfl (Nat.le_of_ble_eq_true rfl) ?_; intro _; unfold M_stratagemref05_Check at h; refine awp_seq ?_; refine awp_region ?_; intro _; refine dr_XDErr ?_; refine awp_seq ?_; refine awp_block ?_; refine awp_seq ?_; refine awp_region ?_; intro _; obtain ⟨z1, u1, h⟩ := ob1_ok h; refine cl_XDErr rfl (A_stratagemref05_large a0 u1) ?_; intro _; refine dr_XDErr ?_; refine awp_cond ?_; intro _; refine spl h (fun c2 h => ?_) (fun c2 h => ?_)
  · refine awp_seq ?_; refine awp_region ?_; intro _; refine dr_XDErr ?_; refine awp_ret ?_; intro _; obtain rfl := inj1 h; repeat (first | exact True.intro | refine ci_XDErr ?_)
  · refine awp_seq ?_; refine awp_region ?_; intro _; obtain ⟨z2, u3, h⟩ := ob1_ok h; refine cl_XDErr rfl (A_stratagemref05_outside a0 u3) ?_; intro _; refine dr_XDErr ?_; refine awp_cond ?_; intro _; refine spl h (fun c4 h => ?_) (fun c4 h => ?_)
    · refine awp_seq ?_; refine awp_region ?_; intro _; refine dr_XDErr ?_; refine awp_ret ?_; intro _; obtain rfl := inj1 h; repeat (first | exact True.intro | refine ci_XDErr ?_)
    · refine awp_seq ?_; refine awp_region ?_; intro _; obtain ⟨z3, u5, h⟩ := ob1_ok h; refine cl_XDErr rfl (A_stratagemref05_malformed a0 u5) ?_; intro _; refine dr_XDErr ?_; refine awp_cond ?_; intro _; refine spl h (fun c6 h => ?_) (fun c6 h => ?_)
      · refine awp_seq ?_; refine awp_region ?_; intro _; refine dr_XDErr ?_; refine awp_ret ?_; intro _; obtain rfl := inj1 h; repeat (first | exact True.intro | refine ci_XDErr ?_)
      · refine awp_seq ?_; refine awp_region ?_; intro _; obtain ⟨z4, u7, h⟩ := ob1_ok h; refine cl_XDErr rfl (A_stratagemref05_misnamed a0 u7) ?_; intro _; refine dr_XDErr ?_; refine awp_cond ?_; intro _; refine spl h (fun c8 h => ?_) (fun c8 h => ?_)
        · refine awp_seq ?_; refine awp_region ?_; intro _; refine dr_XDErr ?_; refine awp_ret ?_; intro _; obtain rfl := inj1 h; repeat (first | exact True.intro | refine ci_XDErr ?_)
        · refine awp_skip ?_; refine awp_seq ?_; refine awp_region ?_; intro _; refine dr_XDErr ?_; refine awp_ret ?_; intro _; obtain rfl := inj1 h; repeat (first | exact True.intro | refine ci_XDErr ?_)
def M_stratagemref06_Is_L1 (a0 : List Fact) : Nat → Int → Option (Bool)
  | 0, _ => none
  | k6 + 1, v5 =>
    sel (decide (v5 < ((a0.map cF).length : Int)))
     (ix a0 v5 (fun y7 =>
       sel (decide (y7.1 < 0))
        (some false)
        (sel (decide (y7.2 < 0))
          (some false)
          (sel (decide (v5 > 0))
            (ix a0 (IntKind.i64.wrap (v5 - 1)) (fun y8 =>
              sel (decide (y8.1 ≥ y7.1))
               (some false)
               (M_stratagemref06_Is_L1 a0 k6 (IntKind.i64.wrap (v5 + 1)))))
            (M_stratagemref06_Is_L1 a0 k6 (IntKind.i64.wrap (v5 + 1)))))))
     (some true)
def M_stratagemref06_Is (a0 : List Fact) : Option (Bool) :=
  M_stratagemref06_Is_L1 a0 ((((a0.map cF).length : Int)).toNat + 1) 0
set_option maxHeartbeats 16000000 in
set_option maxRecDepth 100000 in
theorem A_stratagemref06_Is (a0 : List Fact) {r1 : Bool} (h : M_stratagemref06_Is a0 = some r1) : ACall cx 67 [.sl 2 (a0.map cF)] (.c (.bool r1)) := by
  refine acall_of Tryz.func67 rfl (by decide) rfl (Nat.le_of_ble_eq_true rfl) ?_; intro _; unfold M_stratagemref06_Is at h; refine awp_seq ?_; refine awp_region ?_; intro _; refine dr_XDErr ?_; refine awp_seq ?_; refine awp_seq ?_; refine awp_region ?_; intro _; refine dr_XDErr ?_; refine awp_block ?_; refine awp_loop (α := Nat × Int) (fun x => mkS 36 [(0, .sl 2 (a0.map cF)), (5, .sl 2 (a0.map cF)), (6, .c (.int .i64 ((a0.map cF).length : Int))), (7, .c (.int .i64 x.2))] []) (fun x => M_stratagemref06_Is_L1 a0 x.1 x.2 = some r1) (fun x => x.1) ((((a0.map cF).length : Int)).toNat + 1, 0) h ?_ ?_
  · repeat (first | exact True.intro | refine ci_XDErr ?_)
  · intro x1 h; intro _; obtain ⟨k6, m2, h⟩ := succ_of (f := fun n => M_stratagemref06_Is_L1 a0 n x1.2) rfl h; replace h : M_stratagemref06_Is_L1 a0 (k6 + 1) x1.2 = some r1 := h; rw [M_stratagemref06_Is_L1] at h; refine awp_seq ?_; refine awp_region ?_; intro _; refine dr_XDErr ?_; refine awp_seq ?_; refine awp_cond ?_; intro _; refine spl h (fun c3 h => ?_) (fun c3 h => ?_)
    · refine awp_skip ?_; refine awp_seq ?_; refine awp_block ?_; refine awp_seq ?_; refine awp_region ?_; intro _; obtain ⟨y7, w4, q5, h⟩ := ix_ok h; refine Exists.intro (cF y7) (And.intro (map_at' w4) ?_); intro _; refine pr_XDErr ?_; refine dr_XDErr ?_; refine awp_seq ?_; refine awp_region ?_; intro _; refine spf h (fun c6 h => ?_) (fun c6 h => ?_)
      · intro _; refine spf h (fun c7 h => ?_) (fun c7 h => ?_)
        · intro _; refine spl h (fun c8 h => ?_) (fun c8 h => ?_)
          · intro _; obtain ⟨y8, w9, q10, h⟩ := ix_ok h; refine Exists.intro (cF y8) (And.intro (map_at' w9) ?_); intro _; refine pr_XDErr ?_; refine dr_XDErr ?_; refine awp_cond ?_; intro _; refine spl h (fun c11 h => ?_) (fun c11 h => ?_)
            · refine awp_seq ?_; refine awp_region ?_; intro _; refine dr_XDErr ?_; refine awp_ret ?_; intro _; obtain rfl := inj1 h; repeat (first | exact True.intro | refine ci_XDErr ?_)
            · refine awp_skip ?_; refine awp_region ?_; intro _; refine dr_XDErr ?_; refine ⟨(k6, (IntKind.i64.wrap (x1.2 + 1))), h, lt_of_succ m2, ?_⟩; repeat (first | exact True.intro | refine ci_XDErr ?_)
          · intro _; refine dr_XDErr ?_; refine awp_cond ?_; intro _; refine litF ?_; refine awp_skip ?_; refine awp_region ?_; intro _; refine dr_XDErr ?_; refine ⟨(k6, (IntKind.i64.wrap (x1.2 + 1))), h, lt_of_succ m2, ?_⟩; repeat (first | exact True.intro | refine ci_XDErr ?_)
        · intro _; refine dr_XDErr ?_; refine awp_cond ?_; intro _; refine litT ?_; refine awp_seq ?_; refine awp_region ?_; intro _; refine dr_XDErr ?_; refine awp_ret ?_; intro _; obtain rfl := inj1 h; repeat (first | exact True.intro | refine ci_XDErr ?_)
      · intro _; refine dr_XDErr ?_; refine awp_cond ?_; intro _; refine litT ?_; refine awp_seq ?_; refine awp_region ?_; intro _; refine dr_XDErr ?_; refine awp_ret ?_; intro _; obtain rfl := inj1 h; repeat (first | exact True.intro | refine ci_XDErr ?_)
    · refine awp_exit ?_; refine awp_seq ?_; refine awp_region ?_; intro _; refine dr_XDErr ?_; refine awp_ret ?_; intro _; obtain rfl := inj1 h; repeat (first | exact True.intro | refine ci_XDErr ?_)
def M_stratagemref30_Check_L1 (y111 : Nogood) : Nat → Int → Option (Unit ⊕ Int)
  | 0, _ => none
  | k117 + 1, v116 =>
    sel (decide (v116 < ((y111.1.map cF).length : Int)))
     (ix y111.1 v116 (fun y118 =>
       sel (decide (y118.1 ≥ 64))
        (some (.inr 2))
        (sel (decide (y118.2 ≥ 64))
          (some (.inr 2))
          (M_stratagemref30_Check_L1 y111 k117 (IntKind.i64.wrap (v116 + 1))))))
     (some (.inl ()))
def M_stratagemref30_Check_L2 (a0 : GCertificate) : Nat → Int → Option (Unit ⊕ Int)
  | 0, _ => none
  | k100 + 1, v99 =>
    sel (decide (v99 < ((a0.Nogoods.map cN).length : Int)))
     (ob1 (ix a0.Nogoods v99 (fun y111 =>
        ob1 (M_stratagemref06_Is y111.1) (fun z112 =>
         sel (!z112)
          (some (.inr 2))
          (M_stratagemref30_Check_L1 y111 ((((y111.1.map cF).length : Int)).toNat + 1) 0))) : Option (Unit ⊕ Int))
       (osum
       (fun _ => M_stratagemref30_Check_L2 a0 k100 (IntKind.i64.wrap (v99 + 1)))
       (fun r109 => some (.inr r109))))
     (some (.inl ()))
def M_stratagemref30_Check_L3 (a0 : GCertificate) : Nat → Int → Option (Int)
  | 0, _ => none
  | k123 + 1, v122 =>
    sel (decide (v122 < ((a0.Nogoods.map cN).length : Int)))
     (ix a0.Nogoods v122 (fun y124 =>
       sel (decide (y124.2 < 0))
        (some 1)
        (sel (decide (a0.Bound ≥ 0))
          (sel (decide (y124.2 ≥ a0.Bound))
            (some 1)
            (sel (decide (a0.Bound < 0))
              (sel (y124.2 != 0)
                (some 1)
                (M_stratagemref30_Check_L3 a0 k123 (IntKind.i64.wrap (v122 + 1))))
              (M_stratagemref30_Check_L3 a0 k123 (IntKind.i64.wrap (v122 + 1)))))
          (sel (decide (a0.Bound < 0))
            (sel (y124.2 != 0)
              (some 1)
              (M_stratagemref30_Check_L3 a0 k123 (IntKind.i64.wrap (v122 + 1))))
            (M_stratagemref30_Check_L3 a0 k123 (IntKind.i64.wrap (v122 + 1)))))))
     (some 0)
def M_stratagemref30_Check (a0 : GCertificate) : Option (Int) :=
  ob1 (sel (decide (a0.Bound < (-1)))
    (some (.inr 1))
    (sel (decide (a0.Bound > 1099511627776))
      (some (.inr 1))
      (some (.inl ()))) : Option (Unit ⊕ Int))
   (osum
   (fun _ => sel (decide (((a0.Nogoods.map cN).length : Int) > 4096))
      (some 5)
      (ob1 (M_stratagemref30_Check_L2 a0 ((((a0.Nogoods.map cN).length : Int)).toNat + 1) 0 : Option (Unit ⊕ Int))
        (osum
        (fun _ => M_stratagemref30_Check_L3 a0 ((((a0.Nogoods.map cN).length : Int)).toNat + 1) 0)
        (fun r60 => some r60))))
   (fun r1 => some r1))
set_option maxHeartbeats 16000000 in
set_option maxRecDepth 100000 in
theorem A_stratagemref30_Check (a0 : GCertificate) {r1 : Int} (h : M_stratagemref30_Check a0 = some r1) : ACall cx 45 [.agg [.c (.int .i64 a0.Bound), .sl 2 (a0.Nogoods.map cN)]] (.c (.int .i64 r1)) := by
  refine acall_of Tryz.func45 rfl (by decide) rfl (Nat.le_of_ble_eq_true rfl) ?_; intro _; unfold M_stratagemref30_Check at h; refine awp_seq ?_; refine awp_region ?_; intro _; refine dr_XDErr ?_; obtain ⟨o1, h, hK2⟩ := ob1_ok h; refine awp_cut (α := Unit) (fun _ => mkS 82 [(1, .ptr 1 0 0 0)] [(1, ⟨29, 2, true, [[.c (.int .i64 a0.Bound), .sl 2 (a0.Nogoods.map cN)]]⟩)]) (fun v => o1 = (.inl v)) ?_ ?_
  · refine awp_seq ?_; refine awp_region ?_; intro _; refine spf h (fun c3 h => ?_) (fun c3 h => ?_)
    · intro _; refine dr_XDErr ?_; refine awp_cond ?_; intro _; refine spl h (fun c4 h => ?_) (fun c4 h => ?_)
      · refine awp_seq ?_; refine awp_region ?_; intro _; refine dr_XDErr ?_; refine awp_ret ?_; have j5 := Option.some.inj h; subst j5; replace h := (osum_r hK2); intro _; obtain rfl := inj1 h; repeat (first | exact True.intro | refine ci_XDErr ?_)
      · refine awp_skip ?_; refine ⟨(), (Option.some.inj h).symm, ?_⟩; repeat (first | exact True.intro | refine ci_XDErr ?_)
    · intro _; refine dr_XDErr ?_; refine awp_cond ?_; intro _; refine litT ?_; refine awp_seq ?_; refine awp_region ?_; intro _; refine dr_XDErr ?_; refine awp_ret ?_; have j6 := Option.some.inj h; subst j6; replace h := (osum_r hK2); intro _; obtain rfl := inj1 h; repeat (first | exact True.intro | refine ci_XDErr ?_)
  · rintro _ ho; have ho := ho.symm; subst ho; intro _; replace h := (osum_l hK2); refine awp_seq ?_; refine awp_seq ?_; refine awp_region ?_; intro _; refine dr_XDErr ?_; refine awp_cond ?_; intro _; refine spl h (fun c7 h => ?_) (fun c7 h => ?_)
    · refine awp_seq ?_; refine awp_region ?_; intro _; refine dr_XDErr ?_; refine awp_ret ?_; intro _; obtain rfl := inj1 h; repeat (first | exact True.intro | refine ci_XDErr ?_)
    · refine awp_skip ?_; obtain ⟨o8, h, hK9⟩ := ob1_ok h; refine awp_cut (α := Unit) (fun _ => mkS 82 [(1, .ptr 1 0 0 0)] [(1, ⟨29, 2, true, [[.c (.int .i64 a0.Bound), .sl 2 (a0.Nogoods.map cN)]]⟩)]) (fun v => o8 = (.inl v)) ?_ ?_
      · refine awp_seq ?_; refine awp_region ?_; intro _; refine dr_XDErr ?_; refine awp_block ?_; refine awp_loop (α := Nat × Int) (fun x => mkS 82 [(1, .ptr 1 0 0 0), (22, .sl 2 (a0.Nogoods.map cN)), (23, .c (.int .i64 ((a0.Nogoods.map cN).length : Int))), (24, .c (.int .i64 x.2))] [(1, ⟨29, 2, true, [[.c (.int .i64 a0.Bound), .sl 2 (a0.Nogoods.map cN)]]⟩)]) (fun x => M_stratagemref30_Check_L2 a0 x.1 x.2 = some o8) (fun x => x.1) ((((a0.Nogoods.map cN).length : Int)).toNat + 1, 0) h ?_ ?_
        · repeat (first | exact True.intro | refine ci_XDErr ?_)
        · intro x10 h; intro _; obtain ⟨k100, m11, h⟩ := succ_of (f := fun n => M_stratagemref30_Check_L2 a0 n x10.2) rfl h; replace h : M_stratagemref30_Check_L2 a0 (k100 + 1) x10.2 = some o8 := h; rw [M_stratagemref30_Check_L2] at h; refine awp_seq ?_; refine awp_region ?_; intro _; refine dr_XDErr ?_; refine awp_seq ?_; refine awp_cond ?_; intro _; refine spl h (fun c12 h => ?_) (fun c12 h => ?_)
          · refine awp_skip ?_; obtain ⟨o13, h, hK14⟩ := ob1_ok h; refine awp_cut (α := Unit) (fun _ => mkS 82 [(1, .ptr 1 0 0 0), (22, .sl 2 (a0.Nogoods.map cN)), (23, .c (.int .i64 ((a0.Nogoods.map cN).length : Int))), (24, .c (.int .i64 x10.2))] [(1, ⟨29, 2, true, [[.c (.int .i64 a0.Bound), .sl 2 (a0.Nogoods.map cN)]]⟩)]) (fun v => o13 = (.inl v)) ?_ ?_
            · refine awp_block ?_; refine awp_seq ?_; refine awp_region ?_; intro _; obtain ⟨y111, w15, q16, h⟩ := ix_ok h; refine Exists.intro (cN y111) (And.intro (map_at' w15) ?_); intro _; refine pr_XDErr ?_; refine dr_XDErr ?_; refine awp_seq ?_; refine awp_seq ?_; refine awp_region ?_; intro _; obtain ⟨z112, u17, h⟩ := ob1_ok h; refine cl_XDErr rfl (A_stratagemref06_Is y111.1 u17) ?_; intro _; refine dr_XDErr ?_; refine awp_cond ?_; intro _; refine spl h (fun c18 h => ?_) (fun c18 h => ?_)
              · refine awp_seq ?_; refine awp_region ?_; intro _; refine dr_XDErr ?_; refine awp_ret ?_; have j19 := Option.some.inj h; subst j19; replace h := (osum_r hK14); have j20 := Option.some.inj h; subst j20; replace h := (osum_r hK9); intro _; obtain rfl := inj1 h; repeat (first | exact True.intro | refine ci_XDErr ?_)
              · refine awp_skip ?_; refine awp_seq ?_; refine awp_region ?_; intro _; refine dr_XDErr ?_; refine awp_block ?_; refine awp_loop (α := Nat × Int) (fun x => mkS 82 [(1, .ptr 1 0 0 0), (22, .sl 2 (a0.Nogoods.map cN)), (23, .c (.int .i64 ((a0.Nogoods.map cN).length : Int))), (24, .c (.int .i64 x10.2)), (33, .sl 2 (y111.1.map cF)), (34, .c (.int .i64 ((y111.1.map cF).length : Int))), (35, .c (.int .i64 x.2))] [(1, ⟨29, 2, true, [[.c (.int .i64 a0.Bound), .sl 2 (a0.Nogoods.map cN)]]⟩)]) (fun x => M_stratagemref30_Check_L1 y111 x.1 x.2 = some o13) (fun x => x.1) ((((y111.1.map cF).length : Int)).toNat + 1, 0) h ?_ ?_
                · repeat (first | exact True.intro | refine ci_XDErr ?_)
                · intro x21 h; intro _; obtain ⟨k117, m22, h⟩ := succ_of (f := fun n => M_stratagemref30_Check_L1 y111 n x21.2) rfl h; replace h : M_stratagemref30_Check_L1 y111 (k117 + 1) x21.2 = some o13 := h; rw [M_stratagemref30_Check_L1] at h; refine awp_seq ?_; refine awp_region ?_; intro _; refine dr_XDErr ?_; refine awp_seq ?_; refine awp_cond ?_; intro _; refine spl h (fun c23 h => ?_) (fun c23 h => ?_)
                  · refine awp_skip ?_; refine awp_seq ?_; refine awp_block ?_; refine awp_seq ?_; refine awp_region ?_; intro _; obtain ⟨y118, w24, q25, h⟩ := ix_ok h; refine Exists.intro (cF y118) (And.intro (map_at' w24) ?_); intro _; refine pr_XDErr ?_; refine dr_XDErr ?_; refine awp_seq ?_; refine awp_region ?_; intro _; refine spf h (fun c26 h => ?_) (fun c26 h => ?_)
                    · intro _; refine dr_XDErr ?_; refine awp_cond ?_; intro _; refine spl h (fun c27 h => ?_) (fun c27 h => ?_)
                      · refine awp_seq ?_; refine awp_region ?_; intro _; refine dr_XDErr ?_; refine awp_ret ?_; have j28 := Option.some.inj h; subst j28; replace h := (osum_r hK14); have j29 := Option.some.inj h; subst j29; replace h := (osum_r hK9); intro _; obtain rfl := inj1 h; repeat (first | exact True.intro | refine ci_XDErr ?_)
                      · refine awp_skip ?_; refine awp_region ?_; intro _; refine dr_XDErr ?_; refine ⟨(k117, (IntKind.i64.wrap (x21.2 + 1))), h, lt_of_succ m22, ?_⟩; repeat (first | exact True.intro | refine ci_XDErr ?_)
                    · intro _; refine dr_XDErr ?_; refine awp_cond ?_; intro _; refine litT ?_; refine awp_seq ?_; refine awp_region ?_; intro _; refine dr_XDErr ?_; refine awp_ret ?_; have j30 := Option.some.inj h; subst j30; replace h := (osum_r hK14); have j31 := Option.some.inj h; subst j31; replace h := (osum_r hK9); intro _; obtain rfl := inj1 h; repeat (first | exact True.intro | refine ci_XDErr ?_)
                  · refine awp_exit ?_; refine ⟨(), (Option.some.inj h).symm, ?_⟩; repeat (first | exact True.intro | refine ci_XDErr ?_)
            · rintro _ ho; have ho := ho.symm; subst ho; intro _; replace h := (osum_l hK14); refine awp_region ?_; intro _; refine dr_XDErr ?_; refine ⟨(k100, (IntKind.i64.wrap (x10.2 + 1))), h, lt_of_succ m11, ?_⟩; repeat (first | exact True.intro | refine ci_XDErr ?_)
          · refine awp_exit ?_; refine ⟨(), (Option.some.inj h).symm, ?_⟩; repeat (first | exact True.intro | refine ci_XDErr ?_)
      · rintro _ ho; have ho := ho.symm; subst ho; intro _; replace h := (osum_l hK9); refine awp_seq ?_; refine awp_seq ?_; refine awp_region ?_; intro _; refine dr_XDErr ?_; refine awp_block ?_; refine awp_loop (α := Nat × Int) (fun x => mkS 82 [(1, .ptr 1 0 0 0), (50, .sl 2 (a0.Nogoods.map cN)), (51, .c (.int .i64 ((a0.Nogoods.map cN).length : Int))), (52, .c (.int .i64 x.2))] [(1, ⟨29, 2, true, [[.c (.int .i64 a0.Bound), .sl 2 (a0.Nogoods.map cN)]]⟩)]) (fun x => M_stratagemref30_Check_L3 a0 x.1 x.2 = some r1) (fun x => x.1) ((((a0.Nogoods.map cN).length : Int)).toNat + 1, 0) h ?_ ?_
        · repeat (first | exact True.intro | refine ci_XDErr ?_)
        · intro x32 h; intro _; obtain ⟨k123, m33, h⟩ := succ_of (f := fun n => M_stratagemref30_Check_L3 a0 n x32.2) rfl h; replace h : M_stratagemref30_Check_L3 a0 (k123 + 1) x32.2 = some r1 := h; rw [M_stratagemref30_Check_L3] at h; refine awp_seq ?_; refine awp_region ?_; intro _; refine dr_XDErr ?_; refine awp_seq ?_; refine awp_cond ?_; intro _; refine spl h (fun c34 h => ?_) (fun c34 h => ?_)
          · refine awp_skip ?_; refine awp_seq ?_; refine awp_block ?_; refine awp_seq ?_; refine awp_region ?_; intro _; obtain ⟨y124, w35, q36, h⟩ := ix_ok h; refine Exists.intro (cN y124) (And.intro (map_at' w35) ?_); intro _; refine pr_XDErr ?_; refine dr_XDErr ?_; refine awp_seq ?_; refine awp_region ?_; intro _; refine spf h (fun c37 h => ?_) (fun c37 h => ?_)
            · intro _; refine spl h (fun c38 h => ?_) (fun c38 h => ?_)
              · intro _; refine spf h (fun c39 h => ?_) (fun c39 h => ?_)
                · intro _; refine spl h (fun c40 h => ?_) (fun c40 h => ?_)
                  · intro _; refine dr_XDErr ?_; refine awp_cond ?_; intro _; refine spl h (fun c41 h => ?_) (fun c41 h => ?_)
                    · refine awp_seq ?_; refine awp_region ?_; intro _; refine dr_XDErr ?_; refine awp_ret ?_; intro _; obtain rfl := inj1 h; repeat (first | exact True.intro | refine ci_XDErr ?_)
                    · refine awp_skip ?_; refine awp_region ?_; intro _; refine dr_XDErr ?_; refine ⟨(k123, (IntKind.i64.wrap (x32.2 + 1))), h, lt_of_succ m33, ?_⟩; repeat (first | exact True.intro | refine ci_XDErr ?_)
                  · intro _; refine dr_XDErr ?_; refine awp_cond ?_; intro _; refine litF ?_; refine awp_skip ?_; refine awp_region ?_; intro _; refine dr_XDErr ?_; refine ⟨(k123, (IntKind.i64.wrap (x32.2 + 1))), h, lt_of_succ m33, ?_⟩; repeat (first | exact True.intro | refine ci_XDErr ?_)
                · intro _; refine dr_XDErr ?_; refine awp_cond ?_; intro _; refine litT ?_; refine awp_seq ?_; refine awp_region ?_; intro _; refine dr_XDErr ?_; refine awp_ret ?_; intro _; obtain rfl := inj1 h; repeat (first | exact True.intro | refine ci_XDErr ?_)
              · intro _; refine spl h (fun c42 h => ?_) (fun c42 h => ?_)
                · intro _; refine dr_XDErr ?_; refine awp_cond ?_; intro _; refine spl h (fun c43 h => ?_) (fun c43 h => ?_)
                  · refine awp_seq ?_; refine awp_region ?_; intro _; refine dr_XDErr ?_; refine awp_ret ?_; intro _; obtain rfl := inj1 h; repeat (first | exact True.intro | refine ci_XDErr ?_)
                  · refine awp_skip ?_; refine awp_region ?_; intro _; refine dr_XDErr ?_; refine ⟨(k123, (IntKind.i64.wrap (x32.2 + 1))), h, lt_of_succ m33, ?_⟩; repeat (first | exact True.intro | refine ci_XDErr ?_)
                · intro _; refine dr_XDErr ?_; refine awp_cond ?_; intro _; refine litF ?_; refine awp_skip ?_; refine awp_region ?_; intro _; refine dr_XDErr ?_; refine ⟨(k123, (IntKind.i64.wrap (x32.2 + 1))), h, lt_of_succ m33, ?_⟩; repeat (first | exact True.intro | refine ci_XDErr ?_)
            · intro _; refine dr_XDErr ?_; refine awp_cond ?_; intro _; refine litT ?_; refine awp_seq ?_; refine awp_region ?_; intro _; refine dr_XDErr ?_; refine awp_ret ?_; intro _; obtain rfl := inj1 h; repeat (first | exact True.intro | refine ci_XDErr ?_)
          · refine awp_exit ?_; refine awp_seq ?_; refine awp_region ?_; intro _; refine dr_XDErr ?_; refine awp_ret ?_; intro _; obtain rfl := inj1 h; repeat (first | exact True.intro | refine ci_XDErr ?_)
def M_stratagemref30_Proper_L1 (a0 : List Int) (a1 : GCertificate) : Nat → Int → Option (Int)
  | 0, _ => none
  | k8 + 1, v7 =>
    sel (decide (v7 < ((a1.Nogoods.map cN).length : Int)))
     (ix a1.Nogoods v7 (fun y9 =>
       ob1 (M_stratagembase_Proper a0 y9.1) (fun z10 =>
        sel (!z10)
         (some 2)
         (M_stratagemref30_Proper_L1 a0 a1 k8 (IntKind.i64.wrap (v7 + 1))))))
     (some 0)
def M_stratagemref30_Proper (a0 : List Int) (a1 : GCertificate) : Option (Int) :=
  ob1 (M_stratagemref30_Check a1) (fun z1 =>
   sel (z1 != 0)
    (some z1)
    (M_stratagemref30_Proper_L1 a0 a1 ((((a1.Nogoods.map cN).length : Int)).toNat + 1) 0))
set_option maxHeartbeats 16000000 in
set_option maxRecDepth 100000 in
theorem A_stratagemref30_Proper (a0 : List Int) (a1 : GCertificate) {r1 : Int} (h : M_stratagemref30_Proper a0 a1 = some r1) : ACall cx 25 [.sl 1 (a0.map cI), .agg [.c (.int .i64 a1.Bound), .sl 2 (a1.Nogoods.map cN)]] (.c (.int .i64 r1)) := by
  refine acall_of Tryz.func25 rfl (by decide) rfl (Nat.le_of_ble_eq_true rfl) ?_; intro _; unfold M_stratagemref30_Proper at h; refine awp_seq ?_; refine awp_region ?_; intro _; refine dr_XDErr ?_; refine awp_seq ?_; refine awp_seq ?_; refine awp_region ?_; intro _; obtain ⟨z1, u1, h⟩ := ob1_ok h; refine cl_XDErr rfl (A_stratagemref30_Check a1 u1) ?_; intro _; refine dr_XDErr ?_; refine awp_seq ?_; refine awp_region ?_; intro _; refine dr_XDErr ?_; refine awp_cond ?_; intro _; refine spl h (fun c2 h => ?_) (fun c2 h => ?_)
  · refine awp_seq ?_; refine awp_region ?_; intro _; refine dr_XDErr ?_; refine awp_ret ?_; intro _; obtain rfl := inj1 h; repeat (first | exact True.intro | refine ci_XDErr ?_)
  · refine awp_skip ?_; refine awp_seq ?_; refine awp_seq ?_; refine awp_region ?_; intro _; refine dr_XDErr ?_; refine awp_block ?_; refine awp_loop (α := Nat × Int) (fun x => mkS 26 [(0, .sl 1 (a0.map cI)), (14, .sl 2 (a1.Nogoods.map cN)), (15, .c (.int .i64 ((a1.Nogoods.map cN).length : Int))), (16, .c (.int .i64 x.2))] []) (fun x => M_stratagemref30_Proper_L1 a0 a1 x.1 x.2 = some r1) (fun x => x.1) ((((a1.Nogoods.map cN).length : Int)).toNat + 1, 0) h ?_ ?_
    · repeat (first | exact True.intro | refine ci_XDErr ?_)
    · intro x3 h; intro _; obtain ⟨k8, m4, h⟩ := succ_of (f := fun n => M_stratagemref30_Proper_L1 a0 a1 n x3.2) rfl h; replace h : M_stratagemref30_Proper_L1 a0 a1 (k8 + 1) x3.2 = some r1 := h; rw [M_stratagemref30_Proper_L1] at h; refine awp_seq ?_; refine awp_region ?_; intro _; refine dr_XDErr ?_; refine awp_seq ?_; refine awp_cond ?_; intro _; refine spl h (fun c5 h => ?_) (fun c5 h => ?_)
      · refine awp_skip ?_; refine awp_seq ?_; refine awp_block ?_; refine awp_seq ?_; refine awp_region ?_; intro _; obtain ⟨y9, w6, q7, h⟩ := ix_ok h; refine Exists.intro (cN y9) (And.intro (map_at' w6) ?_); intro _; refine pr_XDErr ?_; refine dr_XDErr ?_; refine awp_seq ?_; refine awp_region ?_; intro _; obtain ⟨z10, u8, h⟩ := ob1_ok h; refine cl_XDErr rfl (A_stratagembase_Proper a0 y9.1 u8) ?_; intro _; refine dr_XDErr ?_; refine awp_cond ?_; intro _; refine spl h (fun c9 h => ?_) (fun c9 h => ?_)
        · refine awp_seq ?_; refine awp_region ?_; intro _; refine dr_XDErr ?_; refine awp_ret ?_; intro _; obtain rfl := inj1 h; repeat (first | exact True.intro | refine ci_XDErr ?_)
        · refine awp_skip ?_; refine awp_region ?_; intro _; refine dr_XDErr ?_; refine ⟨(k8, (IntKind.i64.wrap (x3.2 + 1))), h, lt_of_succ m4, ?_⟩; repeat (first | exact True.intro | refine ci_XDErr ?_)
      · refine awp_exit ?_; refine awp_seq ?_; refine awp_region ?_; intro _; refine dr_XDErr ?_; refine awp_ret ?_; intro _; obtain rfl := inj1 h; repeat (first | exact True.intro | refine ci_XDErr ?_)
def M_stratagemlaw31_CheckerErrors (g : Nat) (a0 : GTask) (a1 : GCertificate) : Option (Bool) :=
  ob1 (sel (decide (((a0.Vars.map cI).length : Int) > 70))
    (ob1 (M_stratagemlaw31_awake g) (fun z12 =>
      some (.inr z12)))
    (sel (decide (((a0.Ops.map cGOp).length : Int) > 20))
      (ob1 (M_stratagemlaw31_awake g) (fun z11 =>
        some (.inr z11)))
      (sel (decide (((a1.Nogoods.map cN).length : Int) > 100))
        (ob1 (M_stratagemlaw31_awake g) (fun z10 =>
          some (.inr z10)))
        (ob1 (M_stratagemlaw31_awake g) (fun z8 =>
          sel (!z8)
           (ob1 (M_stratagemlaw31_awake g) (fun z9 =>
             some (.inr z9)))
           (some (.inl ())))))) : Option (Unit ⊕ Bool))
   (osum
   (fun _ => ob1 (M_stratagemref05_Check a0) (fun z13 =>
      ob1 (sel (z13 == 0)
        (ob1 (M_stratagemref30_Proper a0.Vars a1) (fun z17 =>
          some z17))
        (some z13) : Option (Int))
       (fun v15 => sel (v15 == 0)
          (some true)
          (ob3 (M_checker_Where g a0 a1 1000) (fun z18 z19 z20 =>
            ob1 (M_checker_Verify g a0 a1 1000) (fun z21 =>
             ob1 (M_stratagembase_Num z21) (fun z22 =>
              sel (z22 == v15)
               (ob1 (M_stratagembase_Num z20) (fun z23 =>
                 sel (z23 == v15)
                  (sel (z18 == (-1))
                    (some (z19 == (-1)))
                    (some false))
                  (some false)))
               (some false))))))))
   (fun r6 => some r6))
set_option maxHeartbeats 16000000 in
set_option maxRecDepth 100000 in
theorem A_stratagemlaw31_CheckerErrors (g : Nat) (a0 : GTask) (a1 : GCertificate) {r1 : Bool} (h : M_stratagemlaw31_CheckerErrors g a0 a1 = some r1) : ACall cx 8 [.agg [.sl 1 (a0.Vars.map cI), .sl 1 (a0.Init.map cI), .sl 2 (a0.Goal.map cF), .sl 4 (a0.Ops.map cGOp)], .agg [.c (.int .i64 a1.Bound), .sl 2 (a1.Nogoods.map cN)]] (.c (.bool r1)) := by
  refine acall_of Tryz.func8 rfl (by decide) rfl (Nat.le_of_ble_eq_true rfl) ?_; intro _; unfold M_stratagemlaw31_CheckerErrors at h; refine awp_seq ?_; refine awp_region ?_; intro _; refine dr_XDErr ?_; obtain ⟨o1, h, hK2⟩ := ob1_ok h; refine awp_cut (α := Unit) (fun _ => mkS 67 [(2, .ptr 2 0 0 0), (3, .ptr 3 0 0 0)] [(2, ⟨26, 4, true, [[.sl 1 (a0.Vars.map cI), .sl 1 (a0.Init.map cI), .sl 2 (a0.Goal.map cF), .sl 4 (a0.Ops.map cGOp)]]⟩), (3, ⟨29, 2, true, [[.c (.int .i64 a1.Bound), .sl 2 (a1.Nogoods.map cN)]]⟩)]) (fun v => o1 = (.inl v)) ?_ ?_
  · refine awp_seq ?_; refine awp_region ?_; intro _; refine spf h (fun c3 h => ?_) (fun c3 h => ?_)
    · intro _; refine spf h (fun c4 h => ?_) (fun c4 h => ?_)
      · intro _; refine spf h (fun c5 h => ?_) (fun c5 h => ?_)
        · intro _; obtain ⟨z8, u6, h⟩ := ob1_ok h; refine cl_XDErr rfl (A_stratagemlaw31_awake g u6) ?_; intro _; refine dr_XDErr ?_; refine awp_cond ?_; intro _; refine spl h (fun c7 h => ?_) (fun c7 h => ?_)
          · refine awp_seq ?_; refine awp_region ?_; intro _; obtain ⟨z9, u8, h⟩ := ob1_ok h; refine cl_XDErr rfl (A_stratagemlaw31_awake g u8) ?_; intro _; refine dr_XDErr ?_; refine awp_ret ?_; have j9 := Option.some.inj h; subst j9; replace h := (osum_r hK2); intro _; obtain rfl := inj1 h; repeat (first | exact True.intro | refine ci_XDErr ?_)
          · refine awp_skip ?_; refine ⟨(), (Option.some.inj h).symm, ?_⟩; repeat (first | exact True.intro | refine ci_XDErr ?_)
        · intro _; refine dr_XDErr ?_; refine awp_cond ?_; intro _; refine litT ?_; refine awp_seq ?_; refine awp_region ?_; intro _; obtain ⟨z10, u10, h⟩ := ob1_ok h; refine cl_XDErr rfl (A_stratagemlaw31_awake g u10) ?_; intro _; refine dr_XDErr ?_; refine awp_ret ?_; have j11 := Option.some.inj h; subst j11; replace h := (osum_r hK2); intro _; obtain rfl := inj1 h; repeat (first | exact True.intro | refine ci_XDErr ?_)
      · intro _; refine dr_XDErr ?_; refine awp_cond ?_; intro _; refine litT ?_; refine awp_seq ?_; refine awp_region ?_; intro _; obtain ⟨z11, u12, h⟩ := ob1_ok h; refine cl_XDErr rfl (A_stratagemlaw31_awake g u12) ?_; intro _; refine dr_XDErr ?_; refine awp_ret ?_; have j13 := Option.some.inj h; subst j13; replace h := (osum_r hK2); intro _; obtain rfl := inj1 h; repeat (first | exact True.intro | refine ci_XDErr ?_)
    · intro _; refine dr_XDErr ?_; refine awp_cond ?_; intro _; refine litT ?_; refine awp_seq ?_; refine awp_region ?_; intro _; obtain ⟨z12, u14, h⟩ := ob1_ok h; refine cl_XDErr rfl (A_stratagemlaw31_awake g u14) ?_; intro _; refine dr_XDErr ?_; refine awp_ret ?_; have j15 := Option.some.inj h; subst j15; replace h := (osum_r hK2); intro _; obtain rfl := inj1 h; repeat (first | exact True.intro | refine ci_XDErr ?_)
  · rintro _ ho; have ho := ho.symm; subst ho; intro _; replace h := (osum_l hK2); refine awp_seq ?_; refine awp_region ?_; intro _; obtain ⟨z13, u16, h⟩ := ob1_ok h; refine cl_XDErr rfl (A_stratagemref05_Check a0 u16) ?_; intro _; refine dr_XDErr ?_; obtain ⟨o17, h, hK18⟩ := ob1_ok h; refine awp_cut (α := Int) (fun v15 => mkS 67 [(2, .ptr 2 0 0 0), (3, .ptr 3 0 0 0), (5, .c (.int .i64 v15))] [(2, ⟨26, 4, true, [[.sl 1 (a0.Vars.map cI), .sl 1 (a0.Init.map cI), .sl 2 (a0.Goal.map cF), .sl 4 (a0.Ops.map cGOp)]]⟩), (3, ⟨29, 2, true, [[.c (.int .i64 a1.Bound), .sl 2 (a1.Nogoods.map cN)]]⟩)]) (fun v => o17 = v) ?_ ?_
    · refine awp_seq ?_; refine awp_region ?_; intro _; refine dr_XDErr ?_; refine awp_cond ?_; intro _; refine spl h (fun c19 h => ?_) (fun c19 h => ?_)
      · refine awp_region ?_; intro _; obtain ⟨z17, u20, h⟩ := ob1_ok h; refine cl_XDErr rfl (A_stratagemref30_Proper a0.Vars a1 u20) ?_; intro _; refine dr_XDErr ?_; refine ⟨z17, (Option.some.inj h).symm, ?_⟩; repeat (first | exact True.intro | refine ci_XDErr ?_)
      · refine awp_skip ?_; refine ⟨z13, (Option.some.inj h).symm, ?_⟩; repeat (first | exact True.intro | refine ci_XDErr ?_)
    · rintro v15 ho; have ho := ho.symm; subst ho; intro _; replace h := hK18; refine awp_seq ?_; refine awp_seq ?_; refine awp_region ?_; intro _; refine dr_XDErr ?_; refine awp_cond ?_; intro _; refine spl h (fun c21 h => ?_) (fun c21 h => ?_)
      · refine awp_seq ?_; refine awp_region ?_; intro _; refine dr_XDErr ?_; refine awp_ret ?_; intro _; obtain rfl := inj1 h; repeat (first | exact True.intro | refine ci_XDErr ?_)
      · refine awp_skip ?_; refine awp_seq ?_; refine awp_region ?_; intro _; obtain ⟨z18, z19, z20, u22, h⟩ := ob3_ok h; refine cl_XDErr rfl (A_checker_Where g a0 a1 1000 u22) ?_; intro _; refine dr_XDErr ?_; refine awp_seq ?_; refine awp_region ?_; intro _; obtain ⟨z21, u23, h⟩ := ob1_ok h; refine cl_XDErr rfl (A_checker_Verify g a0 a1 1000 u23) ?_; intro _; obtain ⟨z22, u24, h⟩ := ob1_ok h; refine cl_XDErr rfl (A_stratagembase_Num z21 u24) ?_; intro _; refine spl h (fun c25 h => ?_) (fun c25 h => ?_)
        · intro _; obtain ⟨z23, u26, h⟩ := ob1_ok h; refine cl_XDErr rfl (A_stratagembase_Num z20 u26) ?_; intro _; refine spl h (fun c27 h => ?_) (fun c27 h => ?_)
          · intro _; refine spl h (fun c28 h => ?_) (fun c28 h => ?_)
            · intro _; refine dr_XDErr ?_; refine awp_ret ?_; intro _; obtain rfl := inj1 h; repeat (first | exact True.intro | refine ci_XDErr ?_)
            · intro _; refine dr_XDErr ?_; refine awp_ret ?_; intro _; obtain rfl := inj1 h; repeat (first | exact True.intro | refine ci_XDErr ?_)
          · intro _; refine dr_XDErr ?_; refine awp_ret ?_; intro _; obtain rfl := inj1 h; repeat (first | exact True.intro | refine ci_XDErr ?_)
        · intro _; refine dr_XDErr ?_; refine awp_ret ?_; intro _; obtain rfl := inj1 h; repeat (first | exact True.intro | refine ci_XDErr ?_)
end Go.Proofs.YtcpajbglcgbolaaGreat.Am
/- Range loops of the models as recursions. -/
namespace Go.Proofs.YtcpajbglcgbolaaGreat.Am
def M_stratagemref05_large_L1_B (_ : GOp) (_y79 : GEffect) (_ : Int) : ((Bool)) → (((Bool)) → Option (Bool)) → Option (Bool) := fun v76 rc => ixv _y79 (fun y79 =>
       sel v76
        (rc (true))
        (rc ((decide (((y79.When.map cF).length : Int) > 64)))))
def M_stratagemref05_large_L1_E (_ : GOp) : ((Bool)) → Option (Bool) := fun v76 => some v76
theorem M_stratagemref05_large_L1_rg (y69 : GOp) (hl : y69.Effs.length < 9223372036854775807) : ∀ (k n : Nat) (v76 : Bool), n ≤ y69.Effs.length → y69.Effs.length < k + n → M_stratagemref05_large_L1 y69 k v76 (n : Int) = Rg (M_stratagemref05_large_L1_B y69) (M_stratagemref05_large_L1_E y69) (y69.Effs.drop n) n v76 := by
  intro k n v76
  refine rg_of (L := fun k i (p : ((Bool))) => match p with | v76 => M_stratagemref05_large_L1 y69 k v76 i) hl (fun k n p y hy hn => ?_) (fun k p => ?_) k n v76
  · have h1 := lt_some hy
    have h2 := w64s hn
    first | (simp only [M_stratagemref05_large_L1, M_stratagemref05_large_L1_B, List.length_map, decide_lt h1, sel, ix_at hy, ixv, h2]; done) | (simp only [List.length_map] at h1 hy; simp only [M_stratagemref05_large_L1, M_stratagemref05_large_L1_B, List.length_map, decide_lt h1, sel, ix_at hy, ixv, h2]; done)
  · simp only [M_stratagemref05_large_L1, M_stratagemref05_large_L1_E, List.length_map, decide_ge, sel]
theorem M_stratagemref05_large_L1_eq (y69 : GOp) (v76 : Bool) (hl : y69.Effs.length < 9223372036854775807) : M_stratagemref05_large_L1 y69 (((y69.Effs.map cGEffect).length : Int).toNat + 1) v76 0 = Rg (M_stratagemref05_large_L1_B y69) (M_stratagemref05_large_L1_E y69) y69.Effs 0 v76 := by
  have h := M_stratagemref05_large_L1_rg y69 hl (y69.Effs.length + 1) 0 v76 (Nat.zero_le _) (by omega)
  rw [List.length_map, Int.toNat_natCast]
  exact h
def M_stratagemref05_large_L2_B (_ : GTask) (_y69 : GOp) (_ : Int) : ((Bool)) → (((Bool)) → Option (Bool)) → Option (Bool) := fun v53 rc => ob1 (ixv _y69 (fun y69 =>
        ob1 (sel v53
          (some true)
          (sel (decide (((y69.Pre.map cF).length : Int) > 64))
            (some true)
            (some (decide (((y69.Effs.map cGEffect).length : Int) > 64)))) : Option (Bool))
         (fun v70 => M_stratagemref05_large_L1 y69 ((((y69.Effs.map cGEffect).length : Int)).toNat + 1) v70 0)) : Option (Bool))
       (fun v67 => rc (v67))
def M_stratagemref05_large_L2_E (_ : GTask) : ((Bool)) → Option (Bool) := fun v53 => some v53
theorem M_stratagemref05_large_L2_rg (a0 : GTask) (hl : a0.Ops.length < 9223372036854775807) : ∀ (k n : Nat) (v53 : Bool), n ≤ a0.Ops.length → a0.Ops.length < k + n → M_stratagemref05_large_L2 a0 k v53 (n : Int) = Rg (M_stratagemref05_large_L2_B a0) (M_stratagemref05_large_L2_E a0) (a0.Ops.drop n) n v53 := by
  intro k n v53
  refine rg_of (L := fun k i (p : ((Bool))) => match p with | v53 => M_stratagemref05_large_L2 a0 k v53 i) hl (fun k n p y hy hn => ?_) (fun k p => ?_) k n v53
  · have h1 := lt_some hy
    have h2 := w64s hn
    first | (simp only [M_stratagemref05_large_L2, M_stratagemref05_large_L2_B, List.length_map, decide_lt h1, sel, ix_at hy, ixv, h2]; done) | (simp only [List.length_map] at h1 hy; simp only [M_stratagemref05_large_L2, M_stratagemref05_large_L2_B, List.length_map, decide_lt h1, sel, ix_at hy, ixv, h2]; done)
  · simp only [M_stratagemref05_large_L2, M_stratagemref05_large_L2_E, List.length_map, decide_ge, sel]
theorem M_stratagemref05_large_L2_eq (a0 : GTask) (v53 : Bool) (hl : a0.Ops.length < 9223372036854775807) : M_stratagemref05_large_L2 a0 (((a0.Ops.map cGOp).length : Int).toNat + 1) v53 0 = Rg (M_stratagemref05_large_L2_B a0) (M_stratagemref05_large_L2_E a0) a0.Ops 0 v53 := by
  have h := M_stratagemref05_large_L2_rg a0 hl (a0.Ops.length + 1) 0 v53 (Nat.zero_le _) (by omega)
  rw [List.length_map, Int.toNat_natCast]
  exact h
def M_stratagemref05_outside_L1_B (_ : GTask) (_y18 : Int) (_ : Int) : ((Bool)) → (((Bool)) → Option (Bool)) → Option (Bool) := fun v15 rc => ixv _y18 (fun y18 =>
       sel v15
        (rc (true))
        (sel (decide (y18 < 1))
          (rc (true))
          (rc ((decide (y18 > 64))))))
def M_stratagemref05_outside_L1_E (_ : GTask) : ((Bool)) → Option (Bool) := fun v15 => some v15
theorem M_stratagemref05_outside_L1_rg (a0 : GTask) (hl : a0.Vars.length < 9223372036854775807) : ∀ (k n : Nat) (v15 : Bool), n ≤ a0.Vars.length → a0.Vars.length < k + n → M_stratagemref05_outside_L1 a0 k v15 (n : Int) = Rg (M_stratagemref05_outside_L1_B a0) (M_stratagemref05_outside_L1_E a0) (a0.Vars.drop n) n v15 := by
  intro k n v15
  refine rg_of (L := fun k i (p : ((Bool))) => match p with | v15 => M_stratagemref05_outside_L1 a0 k v15 i) hl (fun k n p y hy hn => ?_) (fun k p => ?_) k n v15
  · have h1 := lt_some hy
    have h2 := w64s hn
    first | (simp only [M_stratagemref05_outside_L1, M_stratagemref05_outside_L1_B, List.length_map, decide_lt h1, sel, ix_at hy, ixv, h2]; done) | (simp only [List.length_map] at h1 hy; simp only [M_stratagemref05_outside_L1, M_stratagemref05_outside_L1_B, List.length_map, decide_lt h1, sel, ix_at hy, ixv, h2]; done)
  · simp only [M_stratagemref05_outside_L1, M_stratagemref05_outside_L1_E, List.length_map, decide_ge, sel]
theorem M_stratagemref05_outside_L1_eq (a0 : GTask) (v15 : Bool) (hl : a0.Vars.length < 9223372036854775807) : M_stratagemref05_outside_L1 a0 (((a0.Vars.map cI).length : Int).toNat + 1) v15 0 = Rg (M_stratagemref05_outside_L1_B a0) (M_stratagemref05_outside_L1_E a0) a0.Vars 0 v15 := by
  have h := M_stratagemref05_outside_L1_rg a0 hl (a0.Vars.length + 1) 0 v15 (Nat.zero_le _) (by omega)
  rw [List.length_map, Int.toNat_natCast]
  exact h
def M_stratagemref05_outside_L2_B (_ : GTask) (_y26 : GOp) (_ : Int) : ((Bool)) → (((Bool)) → Option (Bool)) → Option (Bool) := fun v23 rc => ixv _y26 (fun y26 =>
       sel v23
        (rc (true))
        (sel (decide (y26.Cost < 0))
          (rc (true))
          (rc ((decide (y26.Cost > 1048576))))))
def M_stratagemref05_outside_L2_E (_ : GTask) : ((Bool)) → Option (Bool) := fun v23 => some v23
theorem M_stratagemref05_outside_L2_rg (a0 : GTask) (hl : a0.Ops.length < 9223372036854775807) : ∀ (k n : Nat) (v23 : Bool), n ≤ a0.Ops.length → a0.Ops.length < k + n → M_stratagemref05_outside_L2 a0 k v23 (n : Int) = Rg (M_stratagemref05_outside_L2_B a0) (M_stratagemref05_outside_L2_E a0) (a0.Ops.drop n) n v23 := by
  intro k n v23
  refine rg_of (L := fun k i (p : ((Bool))) => match p with | v23 => M_stratagemref05_outside_L2 a0 k v23 i) hl (fun k n p y hy hn => ?_) (fun k p => ?_) k n v23
  · have h1 := lt_some hy
    have h2 := w64s hn
    first | (simp only [M_stratagemref05_outside_L2, M_stratagemref05_outside_L2_B, List.length_map, decide_lt h1, sel, ix_at hy, ixv, h2]; done) | (simp only [List.length_map] at h1 hy; simp only [M_stratagemref05_outside_L2, M_stratagemref05_outside_L2_B, List.length_map, decide_lt h1, sel, ix_at hy, ixv, h2]; done)
  · simp only [M_stratagemref05_outside_L2, M_stratagemref05_outside_L2_E, List.length_map, decide_ge, sel]
theorem M_stratagemref05_outside_L2_eq (a0 : GTask) (v23 : Bool) (hl : a0.Ops.length < 9223372036854775807) : M_stratagemref05_outside_L2 a0 (((a0.Ops.map cGOp).length : Int).toNat + 1) v23 0 = Rg (M_stratagemref05_outside_L2_B a0) (M_stratagemref05_outside_L2_E a0) a0.Ops 0 v23 := by
  have h := M_stratagemref05_outside_L2_rg a0 hl (a0.Ops.length + 1) 0 v23 (Nat.zero_le _) (by omega)
  rw [List.length_map, Int.toNat_natCast]
  exact h
def M_stratagemref05_malformed_L1_B (a0 : GTask) (_ : GOp) (_y129 : GEffect) (_ : Int) : ((Bool)) → (((Bool)) → Option (Bool)) → Option (Bool) := fun v126 rc => ixv _y129 (fun y129 =>
       sel v126
        (rc (true))
        (ob1 (M_stratagembase_Proper a0.Vars y129.When) (fun z130 =>
          sel (!z130)
           (rc (true))
           (ob1 (M_stratagembase_Proper a0.Vars [(y129.Var, y129.Val)]) (fun z131 =>
             rc ((!z131)))))))
def M_stratagemref05_malformed_L1_E (_ : GTask) (_ : GOp) : ((Bool)) → Option (Bool) := fun v126 => some v126
theorem M_stratagemref05_malformed_L1_rg (a0 : GTask) (y113 : GOp) (hl : y113.Effs.length < 9223372036854775807) : ∀ (k n : Nat) (v126 : Bool), n ≤ y113.Effs.length → y113.Effs.length < k + n → M_stratagemref05_malformed_L1 a0 y113 k v126 (n : Int) = Rg (M_stratagemref05_malformed_L1_B a0 y113) (M_stratagemref05_malformed_L1_E a0 y113) (y113.Effs.drop n) n v126 := by
  intro k n v126
  refine rg_of (L := fun k i (p : ((Bool))) => match p with | v126 => M_stratagemref05_malformed_L1 a0 y113 k v126 i) hl (fun k n p y hy hn => ?_) (fun k p => ?_) k n v126
  · have h1 := lt_some hy
    have h2 := w64s hn
    first | (simp only [M_stratagemref05_malformed_L1, M_stratagemref05_malformed_L1_B, List.length_map, decide_lt h1, sel, ix_at hy, ixv, h2]; done) | (simp only [List.length_map] at h1 hy; simp only [M_stratagemref05_malformed_L1, M_stratagemref05_malformed_L1_B, List.length_map, decide_lt h1, sel, ix_at hy, ixv, h2]; done)
  · simp only [M_stratagemref05_malformed_L1, M_stratagemref05_malformed_L1_E, List.length_map, decide_ge, sel]
theorem M_stratagemref05_malformed_L1_eq (a0 : GTask) (y113 : GOp) (v126 : Bool) (hl : y113.Effs.length < 9223372036854775807) : M_stratagemref05_malformed_L1 a0 y113 (((y113.Effs.map cGEffect).length : Int).toNat + 1) v126 0 = Rg (M_stratagemref05_malformed_L1_B a0 y113) (M_stratagemref05_malformed_L1_E a0 y113) y113.Effs 0 v126 := by
  have h := M_stratagemref05_malformed_L1_rg a0 y113 hl (y113.Effs.length + 1) 0 v126 (Nat.zero_le _) (by omega)
  rw [List.length_map, Int.toNat_natCast]
  exact h
def M_stratagemref05_malformed_L2_B (a0 : GTask) (_y113 : GOp) (_ : Int) : ((Bool)) → (((Bool)) → Option (Bool)) → Option (Bool) := fun v89 rc => ob1 (ixv _y113 (fun y113 =>
        ob1 (sel v89
          (some true)
          (ob1 (M_stratagembase_Proper a0.Vars y113.Pre) (fun z117 =>
            some (!z117))) : Option (Bool))
         (fun v115 => M_stratagemref05_malformed_L1 a0 y113 ((((y113.Effs.map cGEffect).length : Int)).toNat + 1) v115 0)) : Option (Bool))
       (fun v111 => rc (v111))
def M_stratagemref05_malformed_L2_E (_ : GTask) : ((Bool)) → Option (Bool) := fun v89 => some v89
theorem M_stratagemref05_malformed_L2_rg (a0 : GTask) (hl : a0.Ops.length < 9223372036854775807) : ∀ (k n : Nat) (v89 : Bool), n ≤ a0.Ops.length → a0.Ops.length < k + n → M_stratagemref05_malformed_L2 a0 k v89 (n : Int) = Rg (M_stratagemref05_malformed_L2_B a0) (M_stratagemref05_malformed_L2_E a0) (a0.Ops.drop n) n v89 := by
  intro k n v89
  refine rg_of (L := fun k i (p : ((Bool))) => match p with | v89 => M_stratagemref05_malformed_L2 a0 k v89 i) hl (fun k n p y hy hn => ?_) (fun k p => ?_) k n v89
  · have h1 := lt_some hy
    have h2 := w64s hn
    first | (simp only [M_stratagemref05_malformed_L2, M_stratagemref05_malformed_L2_B, List.length_map, decide_lt h1, sel, ix_at hy, ixv, h2]; done) | (simp only [List.length_map] at h1 hy; simp only [M_stratagemref05_malformed_L2, M_stratagemref05_malformed_L2_B, List.length_map, decide_lt h1, sel, ix_at hy, ixv, h2]; done)
  · simp only [M_stratagemref05_malformed_L2, M_stratagemref05_malformed_L2_E, List.length_map, decide_ge, sel]
theorem M_stratagemref05_malformed_L2_eq (a0 : GTask) (v89 : Bool) (hl : a0.Ops.length < 9223372036854775807) : M_stratagemref05_malformed_L2 a0 (((a0.Ops.map cGOp).length : Int).toNat + 1) v89 0 = Rg (M_stratagemref05_malformed_L2_B a0) (M_stratagemref05_malformed_L2_E a0) a0.Ops 0 v89 := by
  have h := M_stratagemref05_malformed_L2_rg a0 hl (a0.Ops.length + 1) 0 v89 (Nat.zero_le _) (by omega)
  rw [List.length_map, Int.toNat_natCast]
  exact h
def M_stratagemref05_misnamed_L1_B (y57 : GOp) (v63 : Int) : ((Bool)) → (((Bool)) → Option (Bool)) → Option (Bool) := fun v62 rc => sel v62
       (rc (true))
       (sel (decide ((byt y57.Name v63) < 32))
         (grd (0 ≤ v63) (grd (v63 < (y57.Name.size : Int)) (rc (true))))
         (grd (0 ≤ v63) (grd (v63 < (y57.Name.size : Int)) (rc ((decide ((byt y57.Name v63) > 126)))))))
def M_stratagemref05_misnamed_L1_E (_ : GOp) : ((Bool)) → Option (Bool) := fun v62 => some v62
theorem M_stratagemref05_misnamed_L1_rg (y57 : GOp) {m : Nat} (hm : (y57.Name.size : Int) = (m : Int)) (hl : m < 9223372036854775807) : ∀ (k n : Nat) (v62 : Bool), n ≤ m → m < k + n → M_stratagemref05_misnamed_L1 y57 k v62 (n : Int) = Rn (M_stratagemref05_misnamed_L1_B y57) (M_stratagemref05_misnamed_L1_E y57) (m - n) n v62 := by
  intro k n v62
  refine rn_of (L := fun k i (p : ((Bool))) => match p with | v62 => M_stratagemref05_misnamed_L1 y57 k v62 i) hl (fun k n p hn => ?_) (fun k p => ?_) k n v62
  · have h2 := w64s (Nat.lt_trans hn hl)
    simp only [M_stratagemref05_misnamed_L1, M_stratagemref05_misnamed_L1_B, hm, decide_lt hn, sel, h2]
  · simp only [M_stratagemref05_misnamed_L1, M_stratagemref05_misnamed_L1_E, hm, decide_ge, sel]
theorem M_stratagemref05_misnamed_L1_eq (y57 : GOp) (v62 : Bool) {m : Nat} (hm : (y57.Name.size : Int) = (m : Int)) (hl : m < 9223372036854775807) : M_stratagemref05_misnamed_L1 y57 (((y57.Name.size : Int)).toNat + 1) v62 0 = Rn (M_stratagemref05_misnamed_L1_B y57) (M_stratagemref05_misnamed_L1_E y57) m 0 v62 := by
  have h := M_stratagemref05_misnamed_L1_rg y57 hm hl (m + 1) 0 v62 (Nat.zero_le _) (by omega)
  have e : ((y57.Name.size : Int)).toNat = m := by rw [hm, Int.toNat_natCast]
  rw [e]
  exact h
def M_stratagemref05_misnamed_L2_B (_ : GTask) (_y57 : GOp) (_ : Int) : ((Bool)) → (((Bool)) → Option (Bool)) → Option (Bool) := fun v44 rc => ob1 (ixv _y57 (fun y57 =>
        ob1 (sel v44
          (some true)
          (some (decide ((y57.Name.size : Int) > 256))) : Option (Bool))
         (fun v58 => M_stratagemref05_misnamed_L1 y57 (((y57.Name.size : Int)).toNat + 1) v58 0)) : Option (Bool))
       (fun v55 => rc (v55))
def M_stratagemref05_misnamed_L2_E (_ : GTask) : ((Bool)) → Option (Bool) := fun v44 => some v44
theorem M_stratagemref05_misnamed_L2_rg (a0 : GTask) (hl : a0.Ops.length < 9223372036854775807) : ∀ (k n : Nat) (v44 : Bool), n ≤ a0.Ops.length → a0.Ops.length < k + n → M_stratagemref05_misnamed_L2 a0 k v44 (n : Int) = Rg (M_stratagemref05_misnamed_L2_B a0) (M_stratagemref05_misnamed_L2_E a0) (a0.Ops.drop n) n v44 := by
  intro k n v44
  refine rg_of (L := fun k i (p : ((Bool))) => match p with | v44 => M_stratagemref05_misnamed_L2 a0 k v44 i) hl (fun k n p y hy hn => ?_) (fun k p => ?_) k n v44
  · have h1 := lt_some hy
    have h2 := w64s hn
    first | (simp only [M_stratagemref05_misnamed_L2, M_stratagemref05_misnamed_L2_B, List.length_map, decide_lt h1, sel, ix_at hy, ixv, h2]; done) | (simp only [List.length_map] at h1 hy; simp only [M_stratagemref05_misnamed_L2, M_stratagemref05_misnamed_L2_B, List.length_map, decide_lt h1, sel, ix_at hy, ixv, h2]; done)
  · simp only [M_stratagemref05_misnamed_L2, M_stratagemref05_misnamed_L2_E, List.length_map, decide_ge, sel]
theorem M_stratagemref05_misnamed_L2_eq (a0 : GTask) (v44 : Bool) (hl : a0.Ops.length < 9223372036854775807) : M_stratagemref05_misnamed_L2 a0 (((a0.Ops.map cGOp).length : Int).toNat + 1) v44 0 = Rg (M_stratagemref05_misnamed_L2_B a0) (M_stratagemref05_misnamed_L2_E a0) a0.Ops 0 v44 := by
  have h := M_stratagemref05_misnamed_L2_rg a0 hl (a0.Ops.length + 1) 0 v44 (Nat.zero_le _) (by omega)
  rw [List.length_map, Int.toNat_natCast]
  exact h
def M_stratagemref06_Is_L1_B (a0 : List Fact) (_y7 : Fact) (v5 : Int) : Unit → (Unit → Option (Bool)) → Option (Bool) := fun _ rc => ixv _y7 (fun y7 =>
       sel (decide (y7.1 < 0))
        (some false)
        (sel (decide (y7.2 < 0))
          (some false)
          (sel (decide (v5 > 0))
            (ix a0 (IntKind.i64.wrap (v5 - 1)) (fun y8 =>
              sel (decide (y8.1 ≥ y7.1))
               (some false)
               (rc ())))
            (rc ()))))
def M_stratagemref06_Is_L1_E (_ : List Fact) : Unit → Option (Bool) := fun _ => some true
theorem M_stratagemref06_Is_L1_rg (a0 : List Fact) (hl : a0.length < 9223372036854775807) : ∀ (k n : Nat) , n ≤ a0.length → a0.length < k + n → M_stratagemref06_Is_L1 a0 k (n : Int) = Rg (M_stratagemref06_Is_L1_B a0) (M_stratagemref06_Is_L1_E a0) (a0.drop n) n () := by
  intro k n 
  refine rg_of (L := fun k i (p : Unit) => M_stratagemref06_Is_L1 a0 k i) hl (fun k n p y hy hn => ?_) (fun k p => ?_) k n ()
  · have h1 := lt_some hy
    have h2 := w64s hn
    first | (simp only [M_stratagemref06_Is_L1, M_stratagemref06_Is_L1_B, List.length_map, decide_lt h1, sel, ix_at hy, ixv, h2]; done) | (simp only [List.length_map] at h1 hy; simp only [M_stratagemref06_Is_L1, M_stratagemref06_Is_L1_B, List.length_map, decide_lt h1, sel, ix_at hy, ixv, h2]; done)
  · simp only [M_stratagemref06_Is_L1, M_stratagemref06_Is_L1_E, List.length_map, decide_ge, sel]
theorem M_stratagemref06_Is_L1_eq (a0 : List Fact)  (hl : a0.length < 9223372036854775807) : M_stratagemref06_Is_L1 a0 (((a0.map cF).length : Int).toNat + 1) 0 = Rg (M_stratagemref06_Is_L1_B a0) (M_stratagemref06_Is_L1_E a0) a0 0 () := by
  have h := M_stratagemref06_Is_L1_rg a0 hl (a0.length + 1) 0  (Nat.zero_le _) (by omega)
  rw [List.length_map, Int.toNat_natCast]
  exact h
def M_stratagemref30_Check_L1_B (_ : Nogood) (_y118 : Fact) (_ : Int) : Unit → (Unit → Option (Unit ⊕ Int)) → Option (Unit ⊕ Int) := fun _ rc => ixv _y118 (fun y118 =>
       sel (decide (y118.1 ≥ 64))
        (some (.inr 2))
        (sel (decide (y118.2 ≥ 64))
          (some (.inr 2))
          (rc ())))
def M_stratagemref30_Check_L1_E (_ : Nogood) : Unit → Option (Unit ⊕ Int) := fun _ => some (.inl ())
theorem M_stratagemref30_Check_L1_rg (y111 : Nogood) (hl : y111.1.length < 9223372036854775807) : ∀ (k n : Nat) , n ≤ y111.1.length → y111.1.length < k + n → M_stratagemref30_Check_L1 y111 k (n : Int) = Rg (M_stratagemref30_Check_L1_B y111) (M_stratagemref30_Check_L1_E y111) (y111.1.drop n) n () := by
  intro k n 
  refine rg_of (L := fun k i (p : Unit) => M_stratagemref30_Check_L1 y111 k i) hl (fun k n p y hy hn => ?_) (fun k p => ?_) k n ()
  · have h1 := lt_some hy
    have h2 := w64s hn
    first | (simp only [M_stratagemref30_Check_L1, M_stratagemref30_Check_L1_B, List.length_map, decide_lt h1, sel, ix_at hy, ixv, h2]; done) | (simp only [List.length_map] at h1 hy; simp only [M_stratagemref30_Check_L1, M_stratagemref30_Check_L1_B, List.length_map, decide_lt h1, sel, ix_at hy, ixv, h2]; done)
  · simp only [M_stratagemref30_Check_L1, M_stratagemref30_Check_L1_E, List.length_map, decide_ge, sel]
theorem M_stratagemref30_Check_L1_eq (y111 : Nogood)  (hl : y111.1.length < 9223372036854775807) : M_stratagemref30_Check_L1 y111 (((y111.1.map cF).length : Int).toNat + 1) 0 = Rg (M_stratagemref30_Check_L1_B y111) (M_stratagemref30_Check_L1_E y111) y111.1 0 () := by
  have h := M_stratagemref30_Check_L1_rg y111 hl (y111.1.length + 1) 0  (Nat.zero_le _) (by omega)
  rw [List.length_map, Int.toNat_natCast]
  exact h
def M_stratagemref30_Check_L2_B (_ : GCertificate) (_y111 : Nogood) (_ : Int) : Unit → (Unit → Option (Unit ⊕ Int)) → Option (Unit ⊕ Int) := fun _ rc => ob1 (ixv _y111 (fun y111 =>
        ob1 (M_stratagemref06_Is y111.1) (fun z112 =>
         sel (!z112)
          (some (.inr 2))
          (M_stratagemref30_Check_L1 y111 ((((y111.1.map cF).length : Int)).toNat + 1) 0))) : Option (Unit ⊕ Int))
       (osum
       (fun _ => rc ())
       (fun r109 => some (.inr r109)))
def M_stratagemref30_Check_L2_E (_ : GCertificate) : Unit → Option (Unit ⊕ Int) := fun _ => some (.inl ())
theorem M_stratagemref30_Check_L2_rg (a0 : GCertificate) (hl : a0.Nogoods.length < 9223372036854775807) : ∀ (k n : Nat) , n ≤ a0.Nogoods.length → a0.Nogoods.length < k + n → M_stratagemref30_Check_L2 a0 k (n : Int) = Rg (M_stratagemref30_Check_L2_B a0) (M_stratagemref30_Check_L2_E a0) (a0.Nogoods.drop n) n () := by
  intro k n 
  refine rg_of (L := fun k i (p : Unit) => M_stratagemref30_Check_L2 a0 k i) hl (fun k n p y hy hn => ?_) (fun k p => ?_) k n ()
  · have h1 := lt_some hy
    have h2 := w64s hn
    first | (simp only [M_stratagemref30_Check_L2, M_stratagemref30_Check_L2_B, List.length_map, decide_lt h1, sel, ix_at hy, ixv, h2]; done) | (simp only [List.length_map] at h1 hy; simp only [M_stratagemref30_Check_L2, M_stratagemref30_Check_L2_B, List.length_map, decide_lt h1, sel, ix_at hy, ixv, h2]; done)
  · simp only [M_stratagemref30_Check_L2, M_stratagemref30_Check_L2_E, List.length_map, decide_ge, sel]
theorem M_stratagemref30_Check_L2_eq (a0 : GCertificate)  (hl : a0.Nogoods.length < 9223372036854775807) : M_stratagemref30_Check_L2 a0 (((a0.Nogoods.map cN).length : Int).toNat + 1) 0 = Rg (M_stratagemref30_Check_L2_B a0) (M_stratagemref30_Check_L2_E a0) a0.Nogoods 0 () := by
  have h := M_stratagemref30_Check_L2_rg a0 hl (a0.Nogoods.length + 1) 0  (Nat.zero_le _) (by omega)
  rw [List.length_map, Int.toNat_natCast]
  exact h
def M_stratagemref30_Check_L3_B (a0 : GCertificate) (_y124 : Nogood) (_ : Int) : Unit → (Unit → Option (Int)) → Option (Int) := fun _ rc => ixv _y124 (fun y124 =>
       sel (decide (y124.2 < 0))
        (some 1)
        (sel (decide (a0.Bound ≥ 0))
          (sel (decide (y124.2 ≥ a0.Bound))
            (some 1)
            (sel (decide (a0.Bound < 0))
              (sel (y124.2 != 0)
                (some 1)
                (rc ()))
              (rc ())))
          (sel (decide (a0.Bound < 0))
            (sel (y124.2 != 0)
              (some 1)
              (rc ()))
            (rc ()))))
def M_stratagemref30_Check_L3_E (_ : GCertificate) : Unit → Option (Int) := fun _ => some 0
theorem M_stratagemref30_Check_L3_rg (a0 : GCertificate) (hl : a0.Nogoods.length < 9223372036854775807) : ∀ (k n : Nat) , n ≤ a0.Nogoods.length → a0.Nogoods.length < k + n → M_stratagemref30_Check_L3 a0 k (n : Int) = Rg (M_stratagemref30_Check_L3_B a0) (M_stratagemref30_Check_L3_E a0) (a0.Nogoods.drop n) n () := by
  intro k n 
  refine rg_of (L := fun k i (p : Unit) => M_stratagemref30_Check_L3 a0 k i) hl (fun k n p y hy hn => ?_) (fun k p => ?_) k n ()
  · have h1 := lt_some hy
    have h2 := w64s hn
    first | (simp only [M_stratagemref30_Check_L3, M_stratagemref30_Check_L3_B, List.length_map, decide_lt h1, sel, ix_at hy, ixv, h2]; done) | (simp only [List.length_map] at h1 hy; simp only [M_stratagemref30_Check_L3, M_stratagemref30_Check_L3_B, List.length_map, decide_lt h1, sel, ix_at hy, ixv, h2]; done)
  · simp only [M_stratagemref30_Check_L3, M_stratagemref30_Check_L3_E, List.length_map, decide_ge, sel]
theorem M_stratagemref30_Check_L3_eq (a0 : GCertificate)  (hl : a0.Nogoods.length < 9223372036854775807) : M_stratagemref30_Check_L3 a0 (((a0.Nogoods.map cN).length : Int).toNat + 1) 0 = Rg (M_stratagemref30_Check_L3_B a0) (M_stratagemref30_Check_L3_E a0) a0.Nogoods 0 () := by
  have h := M_stratagemref30_Check_L3_rg a0 hl (a0.Nogoods.length + 1) 0  (Nat.zero_le _) (by omega)
  rw [List.length_map, Int.toNat_natCast]
  exact h
def M_stratagemref30_Proper_L1_B (a0 : List Int) (_ : GCertificate) (_y9 : Nogood) (_ : Int) : Unit → (Unit → Option (Int)) → Option (Int) := fun _ rc => ixv _y9 (fun y9 =>
       ob1 (M_stratagembase_Proper a0 y9.1) (fun z10 =>
        sel (!z10)
         (some 2)
         (rc ())))
def M_stratagemref30_Proper_L1_E (_ : List Int) (_ : GCertificate) : Unit → Option (Int) := fun _ => some 0
theorem M_stratagemref30_Proper_L1_rg (a0 : List Int) (a1 : GCertificate) (hl : a1.Nogoods.length < 9223372036854775807) : ∀ (k n : Nat) , n ≤ a1.Nogoods.length → a1.Nogoods.length < k + n → M_stratagemref30_Proper_L1 a0 a1 k (n : Int) = Rg (M_stratagemref30_Proper_L1_B a0 a1) (M_stratagemref30_Proper_L1_E a0 a1) (a1.Nogoods.drop n) n () := by
  intro k n 
  refine rg_of (L := fun k i (p : Unit) => M_stratagemref30_Proper_L1 a0 a1 k i) hl (fun k n p y hy hn => ?_) (fun k p => ?_) k n ()
  · have h1 := lt_some hy
    have h2 := w64s hn
    first | (simp only [M_stratagemref30_Proper_L1, M_stratagemref30_Proper_L1_B, List.length_map, decide_lt h1, sel, ix_at hy, ixv, h2]; done) | (simp only [List.length_map] at h1 hy; simp only [M_stratagemref30_Proper_L1, M_stratagemref30_Proper_L1_B, List.length_map, decide_lt h1, sel, ix_at hy, ixv, h2]; done)
  · simp only [M_stratagemref30_Proper_L1, M_stratagemref30_Proper_L1_E, List.length_map, decide_ge, sel]
theorem M_stratagemref30_Proper_L1_eq (a0 : List Int) (a1 : GCertificate)  (hl : a1.Nogoods.length < 9223372036854775807) : M_stratagemref30_Proper_L1 a0 a1 (((a1.Nogoods.map cN).length : Int).toNat + 1) 0 = Rg (M_stratagemref30_Proper_L1_B a0 a1) (M_stratagemref30_Proper_L1_E a0 a1) a1.Nogoods 0 () := by
  have h := M_stratagemref30_Proper_L1_rg a0 a1 hl (a1.Nogoods.length + 1) 0  (Nat.zero_le _) (by omega)
  rw [List.length_map, Int.toNat_natCast]
  exact h
end Go.Proofs.YtcpajbglcgbolaaGreat.Am
/- Plain laws: the references of Check and Proper; CheckerErrors. -/
namespace Go.Proofs.YtcpajbglcgbolaaGreat.Am
open Go.RowKit
def erN : Er → Int
  | .nil => 0
  | .no e => e
theorem rg_any {α γ : Type} {B : α → Int → Bool → (Bool → Option γ) → Option γ} {E : Bool → Option γ} {q : α → Bool} : ∀ {l : List α} {i : Int} {v : Bool}, (∀ y ∈ l, ∀ i v rc, B y i v rc = rc (v || q y)) → Rg B E l i v = E (v || l.any q)
  | [], i, v, _ => by rw [Rg, List.any_nil, Bool.or_false]
  | y :: r, i, v, h => by
    rw [Rg, h y (List.mem_cons_self ..), rg_any (fun z hz => h z (List.mem_cons_of_mem _ hz)), List.any_cons, Bool.or_assoc]
theorem rn_any {γ : Type} {B : Int → Bool → (Bool → Option γ) → Option γ} {E : Bool → Option γ} {q : Nat → Bool} : ∀ {m n : Nat} {v : Bool}, (∀ k, n ≤ k → k < n + m → ∀ v rc, B k v rc = rc (v || q k)) → Rn B E m n v = E (v || (List.range' n m).any q)
  | 0, n, v, _ => by rw [Rn]; simp
  | m + 1, n, v, h => by
    rw [Rn, h n (Nat.le_refl _) (by omega), show ((n : Int) + 1) = ((n + 1 : Nat) : Int) from rfl, rn_any (fun k h1 h2 => h k (by omega) (by omega)), List.range'_succ, List.any_cons, Bool.or_assoc]
theorem sel_or {γ : Type} {b : Bool} {rc : Bool → Option γ} {x : Bool} : sel b (rc true) (rc x) = rc (b || x) := by cases b <;> rfl
theorem ref_large (t : GTask) (ht : ShT t) : M_stratagemref05_large t = some (largeF t) := by
  have e2 := M_stratagemref05_large_L2_eq t (decide (t.Vars.length > 64) || (decide (t.Ops.length > 4096) || decide (t.Goal.length > 64))) ht.ops.lt
  have hv : ∀ K : Bool → Option Bool, ob1 (sel (decide (((t.Vars.map cI).length : Int) > 64)) (some true) (sel (decide (((t.Ops.map cGOp).length : Int) > 4096)) (some true) (some (decide (((t.Goal.map cF).length : Int) > 64)))) : Option (Bool)) K = K (decide (t.Vars.length > 64) || (decide (t.Ops.length > 4096) || decide (t.Goal.length > 64))) := by
    intro K
    simp only [List.length_map]
    have a1 : decide ((t.Vars.length : Int) > 64) = decide (t.Vars.length > 64) := by congr 1; apply propext; omega
    have a2 : decide ((t.Ops.length : Int) > 4096) = decide (t.Ops.length > 4096) := by congr 1; apply propext; omega
    have a3 : decide ((t.Goal.length : Int) > 64) = decide (t.Goal.length > 64) := by congr 1; apply propext; omega
    rw [a1, a2, a3]
    cases decide (t.Vars.length > 64) <;> cases decide (t.Ops.length > 4096) <;> rfl
  rw [M_stratagemref05_large, hv, e2, rg_any (q := fun o : GOp => decide (o.Pre.length > 64) || (decide (o.Effs.length > 64) || o.Effs.any fun e => decide (e.When.length > 64))), M_stratagemref05_large_L2_E]
  · congr 1
    rw [Bool.eq_iff_iff, largeF, condsF]
    simp only [Bool.or_eq_true, decide_eq_true_iff, List.any_eq_true, List.mem_cons, List.mem_flatMap, condsO, List.mem_map]
    constructor
    · rintro ((h | h | h) | ⟨o, ho, h | h | ⟨e, he, h⟩⟩)
      · exact .inl h
      · exact .inr (.inl h)
      · exact .inr (.inr (.inr ⟨_, .inl rfl, h⟩))
      · exact .inr (.inr (.inr ⟨_, .inr ⟨o, ho, .inl rfl⟩, h⟩))
      · exact .inr (.inr (.inl ⟨o, ho, h⟩))
      · exact .inr (.inr (.inr ⟨_, .inr ⟨o, ho, .inr ⟨e, he, rfl⟩⟩, h⟩))
    · rintro (h | h | ⟨o, ho, h⟩ | ⟨l, rfl | ⟨o, ho, rfl | ⟨e, he, rfl⟩⟩, h⟩)
      · exact .inl (.inl h)
      · exact .inl (.inr (.inl h))
      · exact .inr ⟨o, ho, .inr (.inl h)⟩
      · exact .inl (.inr (.inr h))
      · exact .inr ⟨o, ho, .inl h⟩
      · exact .inr ⟨o, ho, .inr (.inr ⟨e, he, h⟩)⟩
  · intro o ho i v rc
    have e1 := fun v => M_stratagemref05_large_L1_eq o v (ht.op o ho).effs.lt
    have a1 : decide ((o.Pre.length : Int) > 64) = decide (o.Pre.length > 64) := by congr 1; apply propext; omega
    have a2 : decide ((o.Effs.length : Int) > 64) = decide (o.Effs.length > 64) := by congr 1; apply propext; omega
    have e3 : ∀ v, M_stratagemref05_large_L1 o ((((o.Effs.map cGEffect).length : Int)).toNat + 1) v 0 = some (v || o.Effs.any fun e => decide (e.When.length > 64)) := fun v => by
      rw [e1, rg_any (q := fun e : GEffect => decide (e.When.length > 64)), M_stratagemref05_large_L1_E]
      intro e _ i v rc
      rw [M_stratagemref05_large_L1_B, ixv, sel_or, List.length_map]
      congr 2
      congr 1; apply propext; omega
    rw [M_stratagemref05_large_L2_B, ixv]
    simp only [e3]
    simp only [List.length_map, a1, a2]
    cases v <;> cases decide (o.Pre.length > 64) <;> cases decide (o.Effs.length > 64) <;> rfl
def outF (t : GTask) : Bool := t.Vars.any (fun n => !decide (1 ≤ n ∧ n ≤ 64)) || t.Ops.any (fun o => !decide (0 ≤ o.Cost ∧ o.Cost ≤ 1048576))
theorem ref_out (t : GTask) (ht : ShT t) : M_stratagemref05_outside t = some (outF t) := by
  have e1 := M_stratagemref05_outside_L1_eq t false ht.vars.lt
  have e2 := fun v => M_stratagemref05_outside_L2_eq t v ht.ops.lt
  rw [M_stratagemref05_outside, e1, rg_any (q := fun n : Int => !decide (1 ≤ n ∧ n ≤ 64)), M_stratagemref05_outside_L1_E, ob1_some, e2, rg_any (q := fun o : GOp => !decide (0 ≤ o.Cost ∧ o.Cost ≤ 1048576)), M_stratagemref05_outside_L2_E, Bool.false_or, outF]
  · intro o _ i v rc
    rw [M_stratagemref05_outside_L2_B, ixv, sel_or, sel_or]
    congr 2
    rw [Bool.eq_iff_iff, Bool.or_eq_true, decide_eq_true_iff, decide_eq_true_iff, Bool.not_eq_true', decide_eq_false_iff_not]
    omega
  · intro n _ i v rc
    rw [M_stratagemref05_outside_L1_B, ixv, sel_or, sel_or]
    congr 2
    rw [Bool.eq_iff_iff, Bool.or_eq_true, decide_eq_true_iff, decide_eq_true_iff, Bool.not_eq_true', decide_eq_false_iff_not]
    omega
def badF (t : GTask) : Bool := !(stateF t.Vars t.Init && propF t.Vars (-1) t.Goal) || t.Ops.any fun o => !propF t.Vars (-1) o.Pre || o.Effs.any fun e => !effF t.Vars e
theorem ref_bad (t : GTask) (ht : ShT t) : M_stratagemref05_malformed t = some (badF t) := by
  have e2 := fun v => M_stratagemref05_malformed_L2_eq t v ht.ops.lt
  rw [M_stratagemref05_malformed, state_eq t.Vars t.Init ht.init, proper_eq t.Vars t.Goal ht.goal]
  have hv : ∀ K : Bool → Option Bool, ob1 (ob1 (some (stateF t.Vars t.Init)) (fun z5 => sel (!z5) (some true) (ob1 (some (propF t.Vars (-1) t.Goal)) (fun z6 => some (!z6))))) K = K (!(stateF t.Vars t.Init && propF t.Vars (-1) t.Goal)) := fun K => by
    cases stateF t.Vars t.Init <;> cases propF t.Vars (-1) t.Goal <;> rfl
  rw [hv, e2, rg_any (q := fun o : GOp => !propF t.Vars (-1) o.Pre || o.Effs.any fun e => !effF t.Vars e), M_stratagemref05_malformed_L2_E, badF]
  intro o ho i v rc
  have hso := ht.op o ho
  have e1 := fun v => M_stratagemref05_malformed_L1_eq t o v hso.effs.lt
  have e3 : ∀ v, M_stratagemref05_malformed_L1 t o ((((o.Effs.map cGEffect).length : Int)).toNat + 1) v 0 = some (v || o.Effs.any fun e => !effF t.Vars e) := fun v => by
    rw [e1, rg_any (q := fun e : GEffect => !effF t.Vars e), M_stratagemref05_malformed_L1_E]
    intro e he i v rc
    rw [M_stratagemref05_malformed_L1_B, ixv, proper_eq t.Vars e.When (hso.when e he), proper_eq t.Vars [(e.Var, e.Val)] (by show (1 : Nat) ≤ _; decide), ob1_some, ob1_some, sel_or, sel_or, effF]
    cases propF t.Vars (-1) e.When <;> cases propF t.Vars (-1) [(e.Var, e.Val)] <;> rfl
  rw [M_stratagemref05_malformed_L2_B, ixv, proper_eq t.Vars o.Pre hso.pre]
  simp only [e3]
  cases v <;> cases propF t.Vars (-1) o.Pre <;> rfl
def misF (t : GTask) : Bool := t.Ops.any fun o => decide (o.Name.size > 256) || !(bl o.Name).all charF
theorem ref_mis (t : GTask) (ht : ShT t) : M_stratagemref05_misnamed t = some (misF t) := by
  have e2 := M_stratagemref05_misnamed_L2_eq t false ht.ops.lt
  rw [M_stratagemref05_misnamed, e2, rg_any (q := fun o : GOp => decide (o.Name.size > 256) || !(bl o.Name).all charF), M_stratagemref05_misnamed_L2_E, Bool.false_or, misF]
  intro o ho i v rc
  have hso := (ht.op o ho).name
  have e3 : ∀ v, M_stratagemref05_misnamed_L1 o (((o.Name.size : Int)).toNat + 1) v 0 = some (v || !(bl o.Name).all charF) := fun v => by
    rw [M_stratagemref05_misnamed_L1_eq o v (m := o.Name.size) rfl (by omega)]
    have := rn_any (B := M_stratagemref05_misnamed_L1_B o) (E := M_stratagemref05_misnamed_L1_E o) (q := fun k => !(match (bl o.Name)[k]? with | some c => charF c | none => false)) (m := o.Name.size) (n := 0) (v := v) (fun k _ hk v rc => by
      obtain ⟨c, hc, hb⟩ := byt_at o.Name k (by omega)
      rw [M_stratagemref05_misnamed_L1_B, hb, hc, sel_dec, grd_t (by omega), grd_t (by omega), grd_t (by omega), grd_t (by omega)]
      simp only [charF]
      by_cases h1 : ((c.toNat : Int)) < 32
      · rw [if_pos h1, sel_or, decide_eq_false (by omega)]; rfl
      · rw [if_neg h1, sel_or]
        congr 2
        rw [Bool.eq_iff_iff, Bool.not_eq_true', decide_eq_true_iff, decide_eq_false_iff_not]
        omega)
    have e0 : Rn (M_stratagemref05_misnamed_L1_B o) (M_stratagemref05_misnamed_L1_E o) o.Name.size 0 v = _ := this
    rw [e0, M_stratagemref05_misnamed_L1_E, ← range_bytes]
    congr 2
    rw [Bool.eq_iff_iff, Bool.not_eq_true', List.all_eq_false]
    simp only [List.any_eq_true, Bool.not_eq_true', Bool.eq_false_iff, ne_eq]
    exact Iff.rfl
  rw [M_stratagemref05_misnamed_L2_B, ixv]
  simp only [e3]
  have a1 : decide ((o.Name.size : Int) > 256) = decide (o.Name.size > 256) := by congr 1; apply propext; omega
  rw [a1]
  cases v <;> cases decide (o.Name.size > 256) <;> rfl
theorem any_not {α : Type} (l : List α) (p : α → Bool) : (l.any fun x => !p x) = !l.all p := by rw [List.not_all_eq_any_not]
theorem ref_check (t : GTask) (ht : ShT t) : M_stratagemref05_Check t = some (erN (checkF t)) := by
  rw [M_stratagemref05_Check, ref_large t ht, ref_out t ht, ref_bad t ht, ref_mis t ht, ob1_some, ob1_some, ob1_some, ob1_some, checkF]
  have hb : badF t = !(stateF t.Vars t.Init && ((condsF t).all (propF t.Vars (-1)) && t.Ops.all (fun o => o.Effs.all (fun e => propF t.Vars (-1) [(e.Var, e.Val)])))) := by
    rw [Bool.eq_iff_iff, badF, Bool.not_eq_true', Bool.eq_false_iff, ne_eq, ← Decidable.not_iff_not, Decidable.not_not]
    simp only [Bool.or_eq_true, Bool.not_eq_true', Bool.and_eq_true, List.any_eq_true, List.all_eq_true, condsF, List.mem_cons, List.mem_flatMap, condsO, List.mem_map, effF, Bool.eq_false_iff, ne_eq]
    constructor
    · intro h
      have h1 : stateF t.Vars t.Init = true ∧ propF t.Vars (-1) t.Goal = true := Decidable.byContradiction fun hh => h (.inl hh)
      have h2 : ∀ o ∈ t.Ops, propF t.Vars (-1) o.Pre = true ∧ ∀ e ∈ o.Effs, propF t.Vars (-1) e.When = true ∧ propF t.Vars (-1) [(e.Var, e.Val)] = true := fun o ho =>
        ⟨Decidable.byContradiction fun hh => h (.inr ⟨o, ho, .inl hh⟩), fun e he => Decidable.byContradiction fun hh => h (.inr ⟨o, ho, .inr ⟨e, he, hh⟩⟩)⟩
      refine ⟨h1.1, fun x hx => ?_, fun o ho e he => ((h2 o ho).2 e he).2⟩
      rcases hx with rfl | ⟨o, ho, rfl | ⟨e, he, rfl⟩⟩
      · exact h1.2
      · exact (h2 o ho).1
      · exact ((h2 o ho).2 e he).1
    · rintro ⟨h1, h2, h3⟩ (h | ⟨o, ho, h | ⟨e, he, h⟩⟩)
      · exact h ⟨h1, h2 _ (.inl rfl)⟩
      · exact h (h2 _ (.inr ⟨o, ho, .inl rfl⟩))
      · exact h ⟨h2 _ (.inr ⟨o, ho, .inr ⟨e, he, rfl⟩⟩), h3 o ho e he⟩
  have hm : misF t = !t.Ops.all (fun o => (bl o.Name).all charF && decide (o.Name.size ≤ 256)) := by
    rw [← any_not, misF]
    congr 1
    funext o
    have : decide (o.Name.size > 256) = !decide (o.Name.size ≤ 256) := by rw [Bool.eq_iff_iff, decide_eq_true_iff, Bool.not_eq_true', decide_eq_false_iff_not]; omega
    rw [this]
    cases decide (o.Name.size ≤ 256) <;> cases (bl o.Name).all charF <;> rfl
  rw [hb, hm, outF, any_not, any_not]
  cases largeF t with
  | true => rfl
  | false =>
    rw [sel_ff, if_neg (by decide)]
    cases t.Vars.all (fun n => decide (1 ≤ n ∧ n ≤ 64)) with
    | false => rfl
    | true =>
      cases t.Ops.all (fun o => decide (0 ≤ o.Cost ∧ o.Cost ≤ 1048576)) with
      | false => rfl
      | true =>
        cases (stateF t.Vars t.Init && ((condsF t).all (propF t.Vars (-1)) && t.Ops.all (fun o => o.Effs.all (fun e => propF t.Vars (-1) [(e.Var, e.Val)])))) with
        | false => rfl
        | true =>
          cases t.Ops.all (fun o => (bl o.Name).all charF && decide (o.Name.size ≤ 256)) <;> rfl
theorem is_loop (l : List Fact) (hs : Sh l) : ∀ (r : List Fact) (n : Nat) (last : Int), l.drop n = r → n ≤ l.length → -1 ≤ last → (n = 0 → last = -1) → (∀ m, n = m + 1 → ∃ x, l[m]? = some x ∧ x.1 = last) → Rg (M_stratagemref06_Is_L1_B l) (M_stratagemref06_Is_L1_E l) r n () = some (vF last r)
  | [], _, _, _, _, _, _, _ => rfl
  | y :: r, n, last, hd, hn, hl, h0, hp => by
    rw [Rg, vF]
    obtain ⟨hy, hd', hlt⟩ := drop_cons hd
    have hih : 0 ≤ y.1 → Rg (M_stratagemref06_Is_L1_B l) (M_stratagemref06_Is_L1_E l) r ((n : Int) + 1) () = some (vF y.1 r) := fun h => is_loop l hs r (n + 1) y.1 hd' hlt (by omega) (by omega) (fun m hm => ⟨y, by rw [show m = n by omega]; exact hy, rfl⟩)
    simp only [M_stratagemref06_Is_L1_B, ixv, sel_dec]
    by_cases h1 : y.1 < 0
    · rw [if_pos h1, decide_eq_false (by omega)]; rfl
    · rw [if_neg h1]
      by_cases h3 : y.2 < 0
      · rw [if_pos h3, decide_eq_false (by omega)]; rfl
      · rw [if_neg h3]
        cases n with
        | zero =>
          have := h0 rfl
          rw [if_neg (by omega), decide_eq_true (by omega)]
          exact hih (by omega)
        | succ m =>
          obtain ⟨x, hx, hxl⟩ := hp m rfl
          rw [if_pos (by omega), w64 (by omega) (by have := hs; unfold Sh at this; omega), show (((m + 1 : Nat) : Int) - 1) = (m : Int) by omega, ix_at hx]
          by_cases h5 : x.1 ≥ y.1
          · rw [if_pos h5, decide_eq_false (by omega)]; rfl
          · rw [if_neg h5, decide_eq_true (by omega)]
            exact hih (by omega)
theorem is06_eq (l : List Fact) (hl : Sh l) : M_stratagemref06_Is l = some (vF (-1) l) := by
  rw [M_stratagemref06_Is, M_stratagemref06_Is_L1_eq _ hl.lt]
  exact is_loop l hl l 0 (-1) rfl (Nat.zero_le _) (by omega) (fun _ => rfl) (fun m hm => by omega)
theorem ref_cert (c : GCertificate) (hc : ShC c) : M_stratagemref30_Check c = some (erN (certF c)) := by
  rw [M_stratagemref30_Check, certF, sel_dec, sel_dec]
  by_cases h1 : c.Bound < -1
  · rw [if_pos h1, if_pos (Or.inl h1)]; rfl
  · rw [if_neg h1]
    by_cases h2 : c.Bound > 1099511627776
    · rw [if_pos h2, if_pos (Or.inr h2)]; rfl
    · rw [if_neg h2, if_neg (by omega), ob1_some, osum_inl, sel_dec, List.length_map]
      by_cases h3 : c.Nogoods.length > 4096
      · rw [if_pos (by omega), if_pos h3]; rfl
      · have e2 := M_stratagemref30_Check_L2_eq c (by omega)
        have e3 := M_stratagemref30_Check_L3_eq c (by omega)
        rw [List.length_map] at e2 e3
        rw [if_neg (by omega), if_neg h3, e2, rg_all (p := fun n : Nogood => frmF n.1) (c := some (.inr 2))]
        · cases ha : c.Nogoods.all fun n => frmF n.1 with
          | false => rw [if_neg (by decide), ob1_some, osum_inr, if_neg (by decide)]; rfl
          | true =>
            rw [if_pos rfl, if_pos rfl, M_stratagemref30_Check_L2_E, ob1_some, osum_inl, e3, rg_all (p := distF c.Bound) (c := some 1), M_stratagemref30_Check_L3_E]
            · split <;> rfl
            · intro n _ i rc
              rw [M_stratagemref30_Check_L3_B, ixv, distF]
              simp only [sel_dec]
              by_cases q1 : n.2 < 0
              · rw [if_pos q1, decide_eq_false (by omega)]; rfl
              · rw [if_neg q1]
                by_cases q2 : c.Bound ≥ 0
                · rw [if_pos q2]
                  by_cases q3 : n.2 ≥ c.Bound
                  · rw [if_pos q3, decide_eq_false (by omega)]; rfl
                  · rw [if_neg q3, if_neg (by omega), decide_eq_true (by omega)]; rfl
                · rw [if_neg q2, if_pos (by omega)]
                  by_cases q4 : n.2 = 0
                  · rw [show (n.2 != 0) = false from by simp [q4], sel_ff, decide_eq_true (by omega)]; rfl
                  · rw [show (n.2 != 0) = true from by simp [q4], sel_tt, decide_eq_false (by omega)]; rfl
        · intro n hn i rc
          have e1 := M_stratagemref30_Check_L1_eq n (hc.each n hn).lt
          rw [M_stratagemref30_Check_L2_B, ixv, is06_eq n.1 (hc.each n hn), ob1_some, frmF]
          cases vF (-1) n.1 with
          | false => rfl
          | true =>
            rw [Bool.not_true, sel_ff, e1, rg_all (p := fun x : Fact => decide (x.1 < 64 ∧ x.2 < 64)) (c := some (.inr 2)), M_stratagemref30_Check_L1_E, Bool.true_and, limF]
            · cases n.1.all fun x => decide (x.1 < 64 ∧ x.2 < 64) <;> rfl
            · intro x _ i rc
              rw [M_stratagemref30_Check_L1_B, ixv, sel_dec, sel_dec]
              by_cases h1 : x.1 ≥ 64
              · rw [if_pos h1, decide_eq_false (by omega)]; rfl
              · rw [if_neg h1]
                by_cases h2 : x.2 ≥ 64
                · rw [if_pos h2, decide_eq_false (by omega)]; rfl
                · rw [if_neg h2, decide_eq_true (by omega)]; rfl
theorem certF_code {c : GCertificate} {e : Int} (h : certF c = .no e) : e ≠ 0 := by
  unfold certF at h
  split at h
  · injection h with h; omega
  · split at h
    · injection h with h; omega
    · split at h
      · split at h
        · cases h
        · injection h with h; omega
      · injection h with h; omega
theorem ref_proper (vars : List Int) (c : GCertificate) (hc : ShC c) : M_stratagemref30_Proper vars c = some (erN (properF vars c)) := by
  have e1 := M_stratagemref30_Proper_L1_eq vars c hc.list.lt
  rw [M_stratagemref30_Proper, ref_cert c hc, ob1_some, properF, e1]
  cases he : certF c with
  | no e =>
    have := certF_code he
    rw [show (erN (Er.no e) != 0) = true from by simp [erN, this]]; rfl
  | nil =>
    show sel false _ (Rg _ _ _ _ _) = _
    rw [sel_ff, rg_all (p := fun n : Nogood => propF vars (-1) n.1) (c := some 2), M_stratagemref30_Proper_L1_E]
    · simp only; split <;> rfl
    · intro n hn i rc
      rw [M_stratagemref30_Proper_L1_B, ixv, proper_eq vars n.1 (hc.each n hn), ob1_some]
      cases propF vars (-1) n.1 <;> rfl
theorem errors_true (g : Nat) (hg : 70 ≤ g) (t : GTask) (ht : ShT t) (c : GCertificate) (hc : ShC c) : M_stratagemlaw31_CheckerErrors g t c = some true := by
  have aw := awake_eq g hg
  rw [M_stratagemlaw31_CheckerErrors, aw]
  have hx : ∀ (b1 b2 b3 : Bool) (K : Unit ⊕ Bool → Option Bool), K (.inl ()) = some true → K (.inr true) = some true → ob1 (sel b1 (ob1 (some true) (fun z12 => some (.inr z12))) (sel b2 (ob1 (some true) (fun z11 => some (.inr z11))) (sel b3 (ob1 (some true) (fun z10 => some (.inr z10))) (ob1 (some true) (fun z8 => sel (!z8) (ob1 (some true) (fun z9 => some (.inr z9))) (some (.inl ())))))) : Option (Unit ⊕ Bool)) K = some true := by
    intro b1 b2 b3 K h1 h2
    cases b1
    · cases b2
      · cases b3
        · exact h1
        · exact h2
      · exact h2
    · exact h2
  refine hx _ _ _ _ ?_ rfl
  rw [osum_inl, ref_check t ht, ob1_some]
  have hfin : ∀ e : Int, e ≠ 0 → whereF t c 1000 = (-1, -1, .no e) → (sel (e == 0) (some true) (ob3 (M_checker_Where g t c 1000) (fun z18 z19 z20 => ob1 (M_checker_Verify g t c 1000) (fun z21 => ob1 (M_stratagembase_Num z21) (fun z22 => sel (z22 == e) (ob1 (M_stratagembase_Num z20) (fun z23 => sel (z23 == e) (sel (z18 == (-1)) (some (z19 == (-1))) (some false)) (some false))) (some false)))))) = some true := by
    intro e he hw
    have hv : verF t c 1000 = .no e := by rw [verF, hw]
    rw [show (e == 0) = false from by simp [he], sel_ff, where_eq t ht c hc 1000 g hg, verify_eq t ht c hc 1000 g hg, hw, hv, ob3_some, ob1_some, num_no, ob1_some, beq_self_eq_true, sel_tt, ob1_some, beq_self_eq_true, sel_tt]
    rfl
  cases hck : checkF t with
  | no e =>
    by_cases he : e = 0
    · subst he
      rw [show (erN (Er.no 0) == 0) = true from rfl, sel_tt, ref_proper t.Vars c hc, ob1_some, ob1_some]
      cases hp : properF t.Vars c with
      | nil => rfl
      | no e2 =>
        exfalso
        unfold checkF at hck
        repeat' split at hck
        all_goals first | (cases hck; done) | (injection hck with hck; omega)
    · rw [show (erN (Er.no e) == 0) = false from by simp [erN, he], sel_ff, ob1_some]
      exact hfin e he (by rw [whereF, hck])
  | nil =>
    rw [show (erN Er.nil == 0) = true from rfl, sel_tt, ref_proper t.Vars c hc, ob1_some, ob1_some]
    cases hp : properF t.Vars c with
    | nil => rfl
    | no e =>
      by_cases he : e = 0
      · subst he; rfl
      · exact hfin e he (by rw [whereF, hck]; simp only; rw [hp])
end Go.Proofs.YtcpajbglcgbolaaGreat.Am
/- Opening arguments: slices of numbers, of facts, of nogoods, a certificate. -/
namespace Go.Proofs.YtcpajbglcgbolaaGreat
open Go.RowKit Go.ChangeShapes Go.WideShapes Go.Deep Go.Joins

def I64 (x : Int) : Prop := -9223372036854775808 ≤ x ∧ x ≤ 9223372036854775807
theorem I64.of {x : Int} (h : (Lit.int .i64 x).wf = true) : I64 x := by
  have := bounds_i64 h
  exact this

section
variable {H : Type} {enc : TypeId × Value → H} {P : Program} {w : World} {base : Nat} {spare : Nat → Bool} {held : Bool}

/-- within the form's reach -/
def Sized (P : Program) (t : TypeId) (d : DataW H) : Prop := ∀ n ∈ d.weights P t, n ≤ reachBytes
theorem sized_arg {ts : List TypeId} {ds : List (DataW H)} (h : (DataW.weightsEach P ts ds).all (· ≤ reachBytes) = true) {j : Nat} {t : TypeId} {d : DataW H} (ht : ts[j]? = some t) (hd : ds[j]? = some d) : Sized P t d :=
  fun n hn => of_decide_eq_true (List.all_eq_true.1 h n (DataW.weights_mem_each ht hd n hn))
theorem sized_field {t : TypeId} {fs : Array Field} {parts : List (DataW H)} (h : Sized P t (.agg parts)) (hu : P.underlying t = some (.struct fs)) {j : Nat} {f : Field} {d : DataW H} (hf : fs[j]? = some f) (hd : parts[j]? = some d) : Sized P f.type d :=
  fun n hn => h n (by
    simp only [DataW.weights, hu]
    exact DataW.weights_mem_each (j := j) (by simp [List.getElem?_map, hf]) hd n hn)
theorem weightsAll_mem {e : TypeId} : ∀ {l : List (DataW H)} {d : DataW H}, d ∈ l → ∀ n ∈ d.weights P e, n ∈ DataW.weightsAll P e l
  | x :: l, d, hd, n, hn => by
    simp only [DataW.weightsAll, List.mem_append]
    rcases List.mem_cons.1 hd with rfl | h
    · exact Or.inl hn
    · exact Or.inr (weightsAll_mem h n hn)
theorem sized_elem {t e : TypeId} {elems sp : List (DataW H)} (h : Sized P t (.slice elems sp)) (hu : P.underlying t = some (.slice e)) {d : DataW H} (hd : d ∈ elems) : Sized P e d :=
  fun n hn => h n (by
    simp only [DataW.weights, hu, List.mem_cons, List.mem_append]
    exact Or.inr (Or.inl (weightsAll_mem hd n hn)))
theorem sized_len {t e : TypeId} {elems sp : List (DataW H)} (h : Sized P t (.slice elems sp)) (hu : P.underlying t = some (.slice e)) : elems.length * P.bytesOf e ≤ 140737488355328 := by
  have h1 := h ((elems.length + sp.length) * P.bytesOf e) (by simp [DataW.weights, hu])
  have h2 : elems.length * P.bytesOf e ≤ (elems.length + sp.length) * P.bytesOf e := Nat.mul_le_mul_right _ (by omega)
  have h3 : reachBytes ≤ 140737488355328 := by decide
  omega

end

theorem spot_of_cell {w : World} {p : Addr} {v : Value} (h : w.cell? p = some v) : p.spot = none := by
  unfold World.cell? at h
  split at h
  · split at h
    · cases h
    · rename_i hs; simpa using hs
  · cases h
theorem addr_of_cell {w : World} {a : Addr} {k : Nat} {v : Value} (h0 : ∃ u, w.cell? (a.add 0) = some u) (h : w.cell? (a.add k) = some v) : a = ⟨a.block, a.off, none⟩ ∧ w.cell? ⟨a.block, a.off + k, none⟩ = some v := by
  obtain ⟨u, hu⟩ := h0
  have hs := spot_of_cell hu
  obtain ⟨b, off, sp⟩ := a
  simp [Addr.add] at hs
  subst hs
  refine ⟨rfl, ?_⟩
  rw [← h]
  congr 1
  unfold Addr.add
  split
  · subst k; rfl
  · rfl

theorem list_of {α : Type} (n : Nat) (R : Nat → α → Prop) (h : ∀ i, i < n → ∃ x, R i x) : ∃ l : List α, l.length = n ∧ ∀ k x, l[k]? = some x → R k x := by
  induction n with
  | zero => exact ⟨[], rfl, fun k x hx => by simp at hx⟩
  | succ n ih =>
    obtain ⟨l, hl, hr⟩ := ih (fun i hi => h i (by omega))
    obtain ⟨x, hx⟩ := h n (by omega)
    refine ⟨l ++ [x], by simp [hl], fun k y hy => ?_⟩
    by_cases hk : k < n
    · rw [List.getElem?_append_left (by omega)] at hy
      exact hr k y hy
    · rw [List.getElem?_append_right (by omega)] at hy
      have hk' : k - l.length = 0 := by
        have := (List.getElem?_eq_some_iff.1 hy).1
        simp at this
        omega
      rw [hk'] at hy
      simp at hy
      subst hy
      obtain rfl : k = n := by omega
      exact hx

variable {H : Type} {enc : TypeId × Value → H} {w : World} {base : Nat} {spare : Nat → Bool} {held : Bool}
end Go.Proofs.YtcpajbglcgbolaaGreat
/- Opening arguments for the abstract machine: readers that compose. -/
namespace Go.Proofs.YtcpajbglcgbolaaGreat.Am
open Go.RowKit Go.ChangeShapes Go.WideShapes Go.Deep Go.Joins

/-- nothing is owned at the start -/
abbrev mZ : MM := mO (fun _ => False)
theorem noZ (b : Nat) : ¬ Owned nov mZ b := fun h => owned_nov.1 h

section
variable {H : Type} {enc : TypeId × Value → H} {P : Program} {w : World} {base : Nat} {spare : Nat → Bool} {held : Bool}
/-- cells that stand for the values -/
def CellsRv (w : World) (es : List AV) (cs : List Value) : Prop := es.length = cs.length ∧ (∀ (j : Nat) (y : AV) (u : Value), es[j]? = some y → cs[j]? = some u → RV w nov mZ y u ∧ u.oneCell' = true) ∧ ∀ y ∈ es, Fr y
/-- data of type t read as an α -/
def Opens (enc : TypeId × Value → H) (P : Program) (w : World) (base : Nat) (spare : Nat → Bool) (held : Bool) (t : TypeId) {α : Type} (en : α → List AV) (R : α → Prop) : Prop :=
  ∀ (fuel : Nat) (cs : List Value) (x : DataW H × List MemPlace), DataW.trod enc P w base spare held fuel t cs = some x → Sized P t x.1 → ∃ a, R a ∧ CellsRv w (en a) cs

theorem cells_one1 {y : AV} {u : Value} (h : RV w nov mZ y u) (h1 : u.oneCell' = true) (hf : Fr y) : CellsRv w [y] [u] := by
  refine ⟨rfl, fun j z v hz hv => ?_, fun z hz => by simp at hz; subst hz; exact hf⟩
  cases j with
  | zero => simp at hz hv; subst hz hv; exact ⟨h, h1⟩
  | succ j => simp at hz
theorem opens_int {t : TypeId} {k : IntKind} (ht : P.underlying t = some (.int k)) : Opens enc P w base spare held t (fun z : Int => [.c (.int k z)]) (fun z => (Lit.int k z).wf = true) := by
  intro fuel cs x h _
  obtain ⟨z, rfl, _, wz⟩ := DataW.trod_int ht h
  exact ⟨z, wz, cells_one1 (.c _) rfl (.c _)⟩
theorem opens_slice {t e : TypeId} {α : Type} {en : α → List AV} {R : α → Prop} {sz by_ : Nat} (ht : P.underlying t = some (.slice e)) (hc : P.cellsOf e = sz) (hb : P.bytesOf e = by_) (hby : 0 < by_) (hsz : 0 < sz) (he : Opens enc P w base spare held e en R) :
    Opens enc P w base spare held t (fun l : List α => [.sl sz (l.map en)]) (fun l => l.length * by_ ≤ 140737488355328 ∧ ∀ x ∈ l, R x) := by
  intro fuel cs x h hs
  rcases open_slice ht h with ⟨rfl, _⟩ | ⟨a, len, cap, m, n, D, Pl, rfl, _, hl, hm, hmm, rfl, hi⟩
  · refine ⟨[], ⟨by simp, by simp⟩, cells_one1 ?_ rfl (.sl (fun e he => by cases he))⟩
    exact RV.sl (l := []) (b := 0) (off := 0) (f := fun _ _ => undef) (fun h => absurd rfl h) (Nat.zero_le _) (by simp) (fun k e h => by simp at h) (fun k j e x h => by simp at h) (fun k j e x h => by simp at h) (fun e he => by cases he)
  · have hlen := sized_len hs ht
    rw [hb] at hlen
    simp only [List.length_map, List.length_range] at hlen
    have hml : len ≤ m := by rw [hmm]; split <;> omega
    have hcell : ∀ i, i < len → ∃ z : α, R z ∧ ∃ cs', CellsRv w (en z) cs' ∧ cs'.length = sz ∧ ∀ j, j < sz → w.cell? (a.add (i * sz + j)) = cs'[j]? := by
      intro i hi'
      obtain ⟨cs', hcc, ht'⟩ := hi i (by omega)
      rw [hc] at hcc
      obtain ⟨z, hz, hcr⟩ := he n cs' _ ht' (sized_elem hs ht (List.mem_map.2 ⟨i, by simpa using hi', rfl⟩))
      obtain ⟨_, hcl', hat⟩ := World.cells?_some hcc
      exact ⟨z, hz, cs', hcr, hcl', fun j hj => by rw [← hat j hj, Go.Deep.add_add]⟩
    obtain ⟨l, hl', hat⟩ := list_of len _ hcell
    have hR : ∀ x ∈ l, R x := fun x hx => by
      obtain ⟨k, hk⟩ := List.getElem?_of_mem hx
      exact (hat k x hk).1
    have hfr : FrL (l.map en) := by
      intro e he
      obtain ⟨x, hx, rfl⟩ := List.mem_map.1 he
      obtain ⟨k, hk⟩ := List.getElem?_of_mem hx
      obtain ⟨_, cs', hcr, _⟩ := hat k x hk
      exact hcr.2.2
    refine ⟨l, ⟨by rw [hl']; exact hlen, hR⟩, cells_one1 ?_ rfl (.sl hfr)⟩
    have key : ∀ (k j : Nat) (e : List AV) (y : AV), (l.map en)[k]? = some e → e[j]? = some y → e.length = sz ∧ ∃ u, w.cell? ⟨a.block, a.off + (k * sz + j), none⟩ = some u ∧ u.oneCell' = true ∧ RV w nov mZ y u ∧ a = ⟨a.block, a.off, none⟩ ∧ a.block < w.heap.size := by
      intro k j e y hk hj
      rw [List.getElem?_map] at hk
      cases hx : l[k]? with
      | none => rw [hx] at hk; cases hk
      | some z =>
        rw [hx] at hk
        simp at hk
        subst hk
        obtain ⟨_, cs', ⟨c1, c2, _⟩, c4, c5⟩ := hat k z hx
        have hjl : j < sz := by rw [← c4, ← c1]; exact (List.getElem?_eq_some_iff.1 hj).1
        have hcj := c5 j hjl
        have hget : cs'[j]? = some (cs'[j]'(by omega)) := List.getElem?_eq_getElem _
        rw [hget] at hcj
        obtain ⟨r1, r2⟩ := c2 j y _ hj hget
        have h0 : 0 < len := by have := (List.getElem?_eq_some_iff.1 hx).1; omega
        obtain ⟨_, _, cs0, ⟨_, _, _⟩, d4, d5⟩ := hcell 0 h0
        have hz0 := d5 0 hsz
        rw [List.getElem?_eq_getElem (by omega)] at hz0
        obtain ⟨e1, e2⟩ := addr_of_cell ⟨_, by simpa using hz0⟩ hcj
        exact ⟨by rw [c1, c4], _, e2, r2, r1, e1, lt_of_cell (p := ⟨a.block, a.off + (k * sz + j), none⟩) e2⟩
    have hlen2 : (l.map en).length = len := by simp [hl']
    have := RV.sl (w := w) (vs := nov) (m := mZ) (sz := sz) (l := l.map en) (A := some a) (cap := cap) (b := a.block) (off := a.off) (f := fun k j => (w.cell? ⟨a.block, a.off + (k * sz + j), none⟩).getD undef)
      (fun hne => ?_) (by omega) (by rw [hlen2]; exact Nat.le_trans (Nat.le_mul_of_pos_right _ hby) hlen) (fun k e hk => ?_) (fun k j e y hk hj => ?_) (fun k j e y hk hj => ?_) hfr
    · rw [hlen2] at this
      exact this
    · have h0 : 0 < (l.map en).length := List.length_pos_iff.2 hne
      have hk := List.getElem?_eq_getElem h0
      obtain ⟨x0, hx0, hx0'⟩ : ∃ x0, l[0]? = some x0 ∧ (l.map en)[0] = en x0 := by
        have h1 : 0 < l.length := by simpa using h0
        exact ⟨l[0], List.getElem?_eq_getElem h1, by simp⟩
      obtain ⟨_, cs', ⟨c1, _, _⟩, c4, _⟩ := hat 0 x0 hx0
      have hel : 0 < ((l.map en)[0]).length := by rw [hx0', c1, c4]; exact hsz
      obtain ⟨_, _, _, _, _, q1, q2⟩ := key 0 0 _ _ hk (List.getElem?_eq_getElem hel)
      exact ⟨by rw [← q1], noZ _, q2⟩
    · rw [List.getElem?_map] at hk
      cases hx : l[k]? with
      | none => rw [hx] at hk; cases hk
      | some z =>
        rw [hx] at hk
        simp at hk
        subst hk
        obtain ⟨_, cs', ⟨c1, _, _⟩, c4, _⟩ := hat k z hx
        rw [c1, c4]
    · obtain ⟨_, u, q1, q2, _⟩ := key k j e y hk hj
      rw [q1]
      exact ⟨rfl, q2⟩
    · obtain ⟨_, u, q1, _, q3, _⟩ := key k j e y hk hj
      rw [q1]
      exact q3

/-- fields from one on -/
def OpensF (enc : TypeId × Value → H) (P : Program) (w : World) (base : Nat) (spare : Nat → Bool) (held : Bool) (fs : List Field) (off tot : Nat) {α : Type} (en : α → List AV) (R : α → Prop) : Prop :=
  ∀ (fuel : Nat) (cs : List Value) (xs : List (DataW H × List MemPlace)), cs.length = tot → xs.length = fs.length → (∀ (i : Nat) (f : Field), fs[i]? = some f → DataW.trod enc P w base spare held fuel f.type ((cs.drop f.offset).take (P.cellsOf f.type)) = xs[i]?) →
    (∀ (i : Nat) (f : Field) (x : DataW H × List MemPlace), fs[i]? = some f → xs[i]? = some x → Sized P f.type x.1) → ∃ a, R a ∧ CellsRv w (en a) (cs.drop off)
theorem cells_append {a b : List AV} {xs ys : List Value} (h1 : CellsRv w a xs) (h2 : CellsRv w b ys) : CellsRv w (a ++ b) (xs ++ ys) := by
  refine ⟨by rw [List.length_append, List.length_append, h1.1, h2.1], fun j y u hy hu => ?_, fun y hy => ?_⟩
  · rcases Nat.lt_or_ge j a.length with hlt | hge
    · rw [List.getElem?_append_left hlt] at hy
      rw [List.getElem?_append_left (by rw [← h1.1]; exact hlt)] at hu
      exact h1.2.1 j y u hy hu
    · rw [List.getElem?_append_right hge] at hy
      rw [List.getElem?_append_right (by rw [← h1.1]; exact hge)] at hu
      rw [h1.1] at hy
      exact h2.2.1 _ y u hy hu
  · rcases List.mem_append.1 hy with h | h
    · exact h1.2.2 y h
    · exact h2.2.2 y h
theorem opensF_last {f : Field} {off tot : Nat} {α : Type} {en : α → List AV} {R : α → Prop} (ho : f.offset = off) (htot : off + P.cellsOf f.type = tot) (h : Opens enc P w base spare held f.type en R) : OpensF enc P w base spare held [f] off tot en R := by
  intro fuel cs xs hcl hx ht hs
  obtain ⟨x, rfl⟩ := List.length_eq_one_iff.1 hx
  have h1 := ht 0 f rfl
  obtain ⟨a, ha, hc⟩ := h fuel _ x h1 (hs 0 f x rfl rfl)
  refine ⟨a, ha, ?_⟩
  rw [ho, List.take_of_length_le (by simp; omega)] at hc
  exact hc
theorem opensF_cons {f : Field} {fs : List Field} {off off' tot : Nat} {α β : Type} {en : α → List AV} {R : α → Prop} {en' : β → List AV} {R' : β → Prop} (ho : f.offset = off) (hoff : off + P.cellsOf f.type = off') (h : Opens enc P w base spare held f.type en R) (h' : OpensF enc P w base spare held fs off' tot en' R') :
    OpensF enc P w base spare held (f :: fs) off tot (fun p : α × β => en p.1 ++ en' p.2) (fun p => R p.1 ∧ R' p.2) := by
  intro fuel cs xs hcl hx ht hs
  cases xs with
  | nil => simp at hx
  | cons x xs =>
    obtain ⟨a, ha, hc⟩ := h fuel _ x (ht 0 f rfl) (hs 0 f x rfl rfl)
    obtain ⟨b, hb, hc'⟩ := h' fuel cs xs hcl (by simpa using hx) (fun i g hg => by simpa using ht (i + 1) g (by simpa using hg)) (fun i g y hg hy => hs (i + 1) g y (by simpa using hg) (by simpa using hy))
    refine ⟨(a, b), ⟨ha, hb⟩, ?_⟩
    rw [ho] at hc
    have : cs.drop off = (cs.drop off).take (P.cellsOf f.type) ++ cs.drop off' := by
      rw [← hoff, ← List.drop_drop, List.take_append_drop]
    rw [this]
    exact cells_append hc hc'
theorem opens_struct {t : TypeId} {fs : Array Field} {α : Type} {en : α → List AV} {R : α → Prop} (ht : P.underlying t = some (.struct fs)) (h : OpensF enc P w base spare held fs.toList 0 (P.cellsOf t) en R) : Opens enc P w base spare held t en R := by
  intro fuel cs x hx hs
  obtain ⟨xs, n, _, rfl, hcl, hxl, hf⟩ := DataW.trod_struct ht hx
  obtain ⟨a, ha, hc⟩ := h n cs xs hcl (by simpa using hxl) (fun i f hi => hf i f (by simpa using hi)) (fun i f y hi hy => sized_field hs ht (j := i) (by simpa using hi) (by simp [List.getElem?_map, hy]))
  exact ⟨a, ha, by simpa using hc⟩

/-- a struct that came in -/
theorem agg_rv {es : List AV} {us : Array Value} (h : CellsRv w es us.toList) : RV w nov mZ (.agg es) (.agg us) :=
  .agg (by rw [h.1]; simp) (fun j y u hy hu => (h.2.1 j y u hy (by simpa using hu)).1)
end
end Go.Proofs.YtcpajbglcgbolaaGreat.Am
/- From a walk to a law's row: the arguments read behind the call as before, the result is true. -/
namespace Go.Proofs.YtcpajbglcgbolaaGreat
open Go.RowKit Go.WideShapes Go.ChangeShapes Go.ChangeAt
section
variable {H : Type} {enc : TypeId × Value → H} {P : Program}
theorem post_of_below {f : Func} {s : ChangeSpec} {apart fresh handsOn again : Bool} {W W' : World} {args : Array Value} {v : Value} {ds gs : List (DataW H)} {before pa pv : List MemPlace}
    (hW : DataW.Whole enc P f.params.toList s.vars apart W args.toList ds gs before)
    (hres : ∀ (b : Nat) (sp : Nat → Bool) (hd : Bool), DataW.TrodAll enc P W' b sp hd f.resultTypes.toList (v.resultList f.resultTypes.size) (s.fn H (ds ++ gs)).results [])
    (hargs : ∀ sp : Nat → Bool, (∀ p ∈ before, sp p.block = true) → DataW.TrodAll enc P W' 0 sp true f.params.toList args.toList (s.fn H (ds ++ gs)).args pa)
    (hvars : ∀ sp : Nat → Bool, (∀ p ∈ before, sp p.block = true) → DataW.TrodVars enc P W' sp s.vars (s.fn H (ds ++ gs)).vars pv)
    (hps : before = pa ++ pv) (hb : Below W.heap.size W W')
    (hok : ∀ (j : Nat) (t : TypeId) (r : Value), f.resultTypes[j]? = some t → (v.resultList f.resultTypes.size)[j]? = some r → Value.okWide P W' .any 0 t r) :
    s.post enc P f apart fresh handsOn again W args v W' := by
  have hlt : ∀ p ∈ before, p.block < W.heap.size := fun p hp => hW.lt p hp
  have hold : ∀ p ∈ before, (fun b => decide (b < W.heap.size)) p.block = true := fun p hp => by simpa using hlt p hp
  refine ⟨ds, gs, before, [], pa, pv, hW, hres _ _ _, hargs _ hold, hvars _ hold, World.keptBut_mono (fun p hp => ⟨hp, ?_⟩) (hb.frame (· ∈ before)), fun _ => ?_⟩
  · rw [hps, List.mem_append] at hp
    exact Or.inr hp
  · obtain ⟨_, _, _, _, _, hz, hn⟩ := hW
    refine ⟨hok, _, _, ([] ++ pa) ++ pv, ⟨[] ++ pa, pv, trodAll_append (hargs _ (fun _ _ => rfl)) (hres _ _ _), hvars _ (fun _ _ => rfl), rfl, ?_, ?_⟩, ?_⟩
    · intro b off hp
      have hin : MemPlace.cell b off ∈ before := by rw [hps]; simpa using hp
      rw [hb.frozen (hlt _ hin)]
      exact hz b off hin
    · intro ha
      have := hn ha
      rw [hps] at this
      simpa using this
    · intro p hp _
      rw [hps]
      simpa using hp

theorem trodAll_keep (hl : laidOutB P = true) {W W' : World} (hb : Below W.heap.size W W') (sp : Nat → Bool) (ts : List TypeId) : ∀ (vs : List Value) (ds : List (DataW H)) (ps : List MemPlace), (∀ t ∈ ts, P.readableRec t = true ∧ t < P.types.size) →
    DataW.TrodAll enc P W 0 (fun _ => true) true ts vs ds ps → (∀ x ∈ ps, x.block < W.heap.size) → (∀ x ∈ ps, sp x.block = true) → DataW.TrodAll enc P W' 0 sp true ts vs ds ps := by
  induction ts with
  | nil =>
    intro vs ds ps _ h _ _
    obtain ⟨rfl, rfl, rfl⟩ := trodAll_nil h
    exact trodAll_mk0
  | cons t ts ih =>
    intro vs ds ps hts h hlt hsp
    obtain ⟨v0, vs0, d0, ds0, p0, q0, rfl, rfl, rfl, h0, r0⟩ := trodAll_cons h
    obtain ⟨hr, hrow⟩ := hts t (by simp)
    exact trodAll_cons_mk (WideElems.Trod_stays hl hr hrow h0 (fun x hx => hb.same (hlt x (by simp [hx]))) (fun x hx => hsp x (by simp [hx])))
      (ih _ _ _ (fun t ht => hts t (by simp [ht])) r0 (fun x hx => hlt x (by simp [hx])) (fun x hx => hsp x (by simp [hx])))

/-- A LAW: it returned true, nothing that was there has turned. -/
theorem law_post (hl : laidOutB P = true) {f : Func} {s : ChangeSpec} {T : TypeId} {W W' : World} {args : Array Value} {ds : List (DataW H)} {before : List MemPlace}
    (hvars : s.vars = []) (hrt : f.resultTypes = #[T]) (hT : P.underlying T = some .bool) (hts : f.params.toList.all (fun t => P.readableRec t && decide (t < P.types.size)) = true)
    (hW : DataW.Whole enc P f.params.toList s.vars false W args.toList ds [] before) (hA : DataW.TrodAll enc P W 0 (fun _ => true) true f.params.toList args.toList ds before)
    (e1 : (s.fn H (ds ++ [])).results = [.lit (.bool true)]) (e2 : (s.fn H (ds ++ [])).args = ds) (e3 : (s.fn H (ds ++ [])).vars = []) (hb : Below W.heap.size W W') :
    s.post enc P f false true false false W args (.bool true) W' := by
  have hlt : ∀ x ∈ before, x.block < W.heap.size := fun x hx => hW.lt x hx
  refine post_of_below (pa := before) (pv := []) hW ?_ ?_ ?_ (by simp) hb ?_
  · intro b sp hd
    rw [e1, hrt]
    exact trodAll_cons_mk (shut_bool hT true) trodAll_mk0
  · intro sp hsp
    rw [e2]
    exact trodAll_keep hl hb sp _ _ _ _ (fun t ht => by simpa using List.all_eq_true.1 hts t ht) hA hlt hsp
  · intro sp hsp
    rw [e3, hvars]
    rfl
  · exact ok_one hrt rfl (okWide_bool_mk hT true)
end
end Go.Proofs.YtcpajbglcgbolaaGreat
