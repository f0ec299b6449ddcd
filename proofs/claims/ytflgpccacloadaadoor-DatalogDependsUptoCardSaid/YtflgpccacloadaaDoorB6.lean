/- stratagemlaw16.DatalogDepends returns true for every input of bulk at most 1048576. No condition beyond the card's own. -/
import Derived.Test.YtflgpccacloadaaDoorB2
import Derived.Test.YtflgpccacloadaaDoorB5
import Derived.Test.YtflgpccacloadaaDoorB3
import Derived.Test.YtflgpccacloadaaDoorCards
import Derived.Test.YtflgpccacloadaaDoorTie
import Derived.Test.YtflgpccacloadaaDoorB1
import Derived.WalkKit
import Derived.ProofKit
import Derived.OpenShut
import Derived.Deep.DeepHandedRow
import Derived.Lib.LaidTab
import Derived.Lib.ItoaNum
set_option linter.unusedVariables false
set_option linter.unusedSectionVars false
set_option linter.unusedSimpArgs false
/- Models printed by my decompiler, and the proofs that the code computes them. -/

namespace Go.Proofs.YtflgpccacloadaaDoor.Am
open Go.RowKit
theorem zb_XDLDeps {P : Prop} (h : P := by repeat (first | exact BWL.nil | exact bwll_nil | exact bw_c | exact BW.sl | exact BW.nil | exact bwll_same rfl FrI.h | refine BWL.cons ?_ ?_ | refine bwll_cons ?_ ?_ | (refine bw_own3 rfl rfl rfl FrI.h ?_ ?_ ?_) | exact BW.mpf rfl rfl rfl FrI.h rfl | refine CloK.bw ?_ | exact BW.fr FrV.h | exact BW.fr (by assumption) | refine bw_agg ?_ | refine bw_clo ?_ | refine bw_ptr rfl rfl rfl ?_ | (refine bw_own rfl rfl rfl ?_ FrI.h ?_ ?_) | assumption | omega | rfl | (rw [List.length_map, ← List.length_append]; assumption) | (refine bwll_same ?_ FrI.h; (simp [cGProgram, cGAtom, cS, cGRule, cA2_cS, cF] <;> fail)) | (rw [List.map_set]; refine bwll_set (by first | rfl | omega | simp) ?_ ?_) | refine bwll_set (by first | rfl | omega | simp) ?_ ?_ | (rw [List.map_replicate]; refine bwll_rep ?_) | refine bwll_rep ?_ | (rw [List.map_append]; refine bwll_append ?_ ?_) | refine bwll_append ?_ ?_ | (simp [cGProgram, cGAtom, cS, cGRule, cA2_cS, cF, take_len_map] <;> fail) | (rw [List.drop_zero, List.take_of_length_le] <;> first | rfl | (simp [cGProgram, cGAtom, cS, cGRule, cA2_cS, cF] <;> fail)) | (simp; omega) | (simp only [List.length_map, List.length_append, List.drop_zero, List.length_cons, List.length_nil, Nat.zero_add, Nat.add_zero] at *; omega))) : P := h
theorem ci_XDLDeps {p K : Prop} (k : K) (h : p := by first | rfl | exact ⟨rfl, rfl⟩ | exact BW.mpf rfl rfl rfl FrI.h rfl | exact cloK3 rfl rfl rfl rfl rfl rfl rfl rfl rfl | exact CloK.bw (BW.fr (by assumption)) | exact BW.fr FrV.h | (refine BW.fr ?_; assumption) | (refine ⟨rfl, ?_⟩; (simp [cGProgram, cGAtom, cS, cGRule, cA2_cS, cF, take_len_map]; done)) | (refine RowK.same ?_ FrI.h; first | rfl | (simp [cGProgram, cGAtom, cS, cGRule, cA2_cS, cF, take_len_map]; done)) | (refine row_part1 ?_; (repeat (first | exact BWL.nil | exact bwll_nil | exact bw_c | exact BW.sl | exact BW.nil | exact bwll_same rfl FrI.h | refine BWL.cons ?_ ?_ | refine bwll_cons ?_ ?_ | (refine bw_own3 rfl rfl rfl FrI.h ?_ ?_ ?_) | exact BW.mpf rfl rfl rfl FrI.h rfl | exact cloK3 rfl rfl rfl rfl rfl rfl rfl rfl rfl | exact CloK.bw (BW.fr (by assumption)) | exact BW.fr FrV.h | exact BW.fr (by assumption) | refine bw_agg ?_ | refine bw_clo ?_ | refine bw_ptr rfl rfl rfl ?_ | (refine bw_own rfl rfl rfl ?_ FrI.h ?_ ?_) | assumption | omega | rfl | (rw [List.length_map, ← List.length_append]; assumption) | (refine bwll_same ?_ FrI.h; (simp [cGProgram, cGAtom, cS, cGRule, cA2_cS, cF] <;> fail)) | (rw [List.map_set]; refine bwll_set (by first | rfl | omega | simp) ?_ ?_) | refine bwll_set (by first | rfl | omega | simp) ?_ ?_ | (rw [List.map_replicate]; refine bwll_rep ?_) | refine bwll_rep ?_ | (rw [List.map_append]; refine bwll_append ?_ ?_) | refine bwll_append ?_ ?_ | (simp [cGProgram, cGAtom, cS, cGRule, cA2_cS, cF, take_len_map] <;> fail) | (rw [List.drop_zero, List.take_of_length_le] <;> first | rfl | (simp [cGProgram, cGAtom, cS, cGRule, cA2_cS, cF] <;> fail)) | (simp; omega) | (simp only [List.length_map, List.length_append, List.drop_zero, List.length_cons, List.length_nil, Nat.zero_add, Nat.add_zero] at *; omega))); done) | ((repeat (first | exact BWL.nil | exact bwll_nil | exact bw_c | exact BW.sl | exact BW.nil | exact bwll_same rfl FrI.h | refine BWL.cons ?_ ?_ | refine bwll_cons ?_ ?_ | (refine bw_own3 rfl rfl rfl FrI.h ?_ ?_ ?_) | exact BW.mpf rfl rfl rfl FrI.h rfl | exact cloK3 rfl rfl rfl rfl rfl rfl rfl rfl rfl | exact CloK.bw (BW.fr (by assumption)) | exact BW.fr FrV.h | exact BW.fr (by assumption) | refine bw_agg ?_ | refine bw_clo ?_ | refine bw_ptr rfl rfl rfl ?_ | (refine bw_own rfl rfl rfl ?_ FrI.h ?_ ?_) | assumption | omega | rfl | (rw [List.length_map, ← List.length_append]; assumption) | (refine bwll_same ?_ FrI.h; (simp [cGProgram, cGAtom, cS, cGRule, cA2_cS, cF] <;> fail)) | (rw [List.map_set]; refine bwll_set (by first | rfl | omega | simp) ?_ ?_) | refine bwll_set (by first | rfl | omega | simp) ?_ ?_ | (rw [List.map_replicate]; refine bwll_rep ?_) | refine bwll_rep ?_ | (rw [List.map_append]; refine bwll_append ?_ ?_) | refine bwll_append ?_ ?_ | (simp [cGProgram, cGAtom, cS, cGRule, cA2_cS, cF, take_len_map] <;> fail) | (rw [List.drop_zero, List.take_of_length_le] <;> first | rfl | (simp [cGProgram, cGAtom, cS, cGRule, cA2_cS, cF] <;> fail)) | (simp; omega) | (simp only [List.length_map, List.length_append, List.drop_zero, List.length_cons, List.length_nil, Nat.zero_add, Nat.add_zero] at *; omega))); done) | (simp [cGProgram, cGAtom, cS, cGRule, cA2_cS, cF, take_len_map]; done)) : p ∧ K := ⟨h, k⟩
theorem ca_XDLDeps {P : Prop} (h : P := by repeat (first | exact True.intro | refine ci_XDLDeps ?_)) : P := h
theorem pr_XDLDeps {p K : Prop} (k : K) (h : p := by first | assumption | exact Int.natCast_nonneg _ | exact Nat.le_refl _ | exact Nat.zero_le _ | omega | (simp; done) | (simp; omega)) : p ∧ K := ⟨h, k⟩
theorem pl_XDLDeps {p K : Prop} (k : K) (h : p := by first | rfl | exact List.length_map _ | (simp; done) | (simp; omega)) : p ∧ K := ⟨h, k⟩
theorem pe_XDLDeps {p K : Prop} (k : K) (h : p := by first | omega | (simp; omega) | (simp only [List.length_map, List.length_cons, List.length_nil, List.length_append]; omega) | (simp only [List.length_map, List.drop_zero, List.length_cons, List.length_nil, Nat.zero_add, Nat.add_zero] at *; omega)) : p ∧ K := ⟨h, k⟩
theorem dr_XDLDeps {b : Bool} {p K : Prop} (k : K) (h : b = true → p := by intro h; first | (cases h; done) | exact ⟨by kernel_rfl, by kernel_rfl⟩) : (b = true → p) ∧ K := ⟨h, k⟩
theorem cl_XDLDeps {C : Cx} {n : Nat} {o : Oper} {τ : Nat → AV} {η : Nat → Ent} {f : FuncId} {os : Array Operand} {ats : Array TypeId} {r : AV} {args : List AV} {K : Foot → Prop} (ho : o.op = .call ⟨.value (.func f), os, ats⟩) (hc : ACall C f args r) (k : K ⟨r, [], []⟩)
    (hd : InB n o.dst := by exact Nat.le_of_ble_eq_true rfl) (hargs : os.toList.map (evA τ) = args := by first | rfl | (simp [cGProgram, cGAtom, cS, cGRule, cA2_cS, cF]; done) | (repeat (first | exact rfl | refine cons_eq ?_ ?_ | exact sl_dt rfl))) (hfr : frs args := by repeat (first | exact trivial | exact fr1_eA _ | exact fr0_eA _ | exact fr1_fr (by assumption) | exact FrV.h | exact fr0_fr FrV.h | exact fr1_fr FrV.h | refine And.intro ?_ ?_)) (hr : fr1 r := by repeat (first | exact trivial | exact fr1_eA _ | exact fr0_eA _ | exact fr1_fr (by assumption) | exact FrV.h | exact fr0_fr FrV.h | exact fr1_fr FrV.h | refine And.intro ?_ ?_)) : ∃ f : Foot, LF C n o τ η f ∧ K f := ⟨_, lf_call ho hd hargs hc hfr hr, k⟩
theorem clb_XDLDeps {C : Cx} {n : Nat} {o : Oper} {τ : Nat → AV} {η : Nat → Ent} {f : FuncId} {os : Array Operand} {ats : Array TypeId} {r : AV} {xs ys : List AV} {K : Foot → Prop} (bs : List Nat) (ho : o.op = .call ⟨.value (.func f), os, ats⟩) (hargs : os.toList.map (evA τ) = xs) (hc : ACall C f ys r) (k : K ⟨r, [], bs⟩)
    (hd : InB n o.dst := by exact Nat.le_of_ble_eq_true rfl) (hb : BWL η (dropB η bs) xs ys := by exact zb_XDLDeps) (hr : scal r := by repeat (first | exact trivial | exact scal0_eA _ | exact scal_eA _ | refine And.intro ?_ ?_)) : ∃ f : Foot, LF C n o τ η f ∧ K f := ⟨_, lf_callB bs ho hd hargs hb hc hr, k⟩
theorem clf_XDLDeps {C : Cx} {n : Nat} {o : Oper} {τ : Nat → AV} {η : Nat → Ent} {f : FuncId} {os : Array Operand} {ats : Array TypeId} {r : AV} {xs ys : List AV} {K : Foot → Prop} (us : List (Nat × Ent)) (ho : o.op = .call ⟨.value (.func f), os, ats⟩) (hargs : os.toList.map (evA τ) = xs) (hc : ACall C f ys r) (k : K ⟨r, us, []⟩)
    (hus : allUs η us := by repeat (first | exact trivial | refine And.intro rfl ?_)) (hul : ltUs n us := by repeat (first | exact trivial | refine And.intro (Nat.le_of_ble_eq_true rfl) ?_)) (hd : InB n o.dst := by exact Nat.le_of_ble_eq_true rfl) (hb : BWL η (dropB η (us.map (·.1))) xs ys := by exact zb_XDLDeps) (hr : fr1 r := by repeat (first | exact trivial | exact fr1_eA _ | exact fr0_eA _ | exact fr1_fr (by assumption) | exact FrV.h | exact fr0_fr FrV.h | exact fr1_fr FrV.h | refine And.intro ?_ ?_)) : ∃ f : Foot, LF C n o τ η f ∧ K f := ⟨_, lf_callF us (allUs_at hus) (ltUs_at hul) ho hd hargs hb hc hr, k⟩
def M_r16_Depends_L1 (a0 : List GRule) (g : Nat) (v1041 : Int) (v1476 : Int) : Nat → Int → (List ByteArray) → Option (List ByteArray)
  | 0, _, _ => none
  | k1550 + 1, v1548, v1549 =>
    ob1 (ix a0 v1476 (fun y1555 =>
      sel (decide (v1548 < ((y1555.Body.map cGAtom).length : Int)))
       (ix a0 v1476 (fun y1556 =>
         ixn v1549 ((v1041).toNat) (fun y1557 =>
          grd (0 ≤ v1041) (grd (v1041 < ((v1549.length : Nat) : Int)) (sel (y1556.Head.Name.toList == y1557.toList)
           (some (.inl ()))
           (some (.inr ())))))))
       (some (.inr ()))) : Option (Unit ⊕ Unit))
     (osum
     (fun _ => ix a0 v1476 (fun y1558 =>
        ix y1558.Body v1548 (fun y1559 =>
         grd (v1549.length ≤ 140737488355328) (ob1 (M_r16_has g v1549 y1559.Name) (fun z1560 =>
          sel (!z1560)
           (ix a0 v1476 (fun y1561 =>
             ix y1561.Body v1548 (fun y1562 =>
              grd ((v1549.length + 1) * 16 ≤ 140737488355328) (M_r16_Depends_L1 a0 g v1041 v1476 k1550 (IntKind.i64.wrap (v1548 + 1)) (v1549 ++ [y1562.Name])))))
           (M_r16_Depends_L1 a0 g v1041 v1476 k1550 (IntKind.i64.wrap (v1548 + 1)) v1549))))))
     (fun _ => some v1549))
def M_r16_Depends_L2 (a0 : List GRule) (g : Nat) (v1041 : Int) : Nat → Int → (List ByteArray) → Option ((List ByteArray) ⊕ Bool)
  | 0, _, _ => none
  | k1478 + 1, v1476, v1477 =>
    sel (decide (v1476 < ((a0.map cGRule).length : Int)))
     (ob1 (M_r16_Depends_L1 a0 g v1041 v1476 g 0 v1477 : Option (List ByteArray))
       (fun v1520 => M_r16_Depends_L2 a0 g v1041 k1478 (IntKind.i64.wrap (v1476 + 1)) v1520))
     (some (.inl v1477))
def M_r16_Depends_L3 (a0 : List GRule) (a2 : ByteArray) (g : Nat) : Nat → Int → (List ByteArray) → Option (Bool)
  | 0, _, _ => none
  | k1043 + 1, v1041, v1042 =>
    sel (decide (v1041 < ((v1042.length : Nat) : Int)))
     (ob1 (ixn v1042 ((v1041).toNat) (fun y1305 =>
        grd (0 ≤ v1041) (grd (v1041 < ((v1042.length : Nat) : Int)) (sel (y1305.toList == a2.toList)
         (some (.inr true))
         (M_r16_Depends_L2 a0 g v1041 g 0 v1042)))) : Option ((List ByteArray) ⊕ Bool))
       (osum
       (fun v1302 => M_r16_Depends_L3 a0 a2 g k1043 (IntKind.i64.wrap (v1041 + 1)) v1302)
       (fun r1303 => some r1303)))
     (some false)
def M_r16_Depends (g : Nat) (a0 : List GRule) (a1 : ByteArray) (a2 : ByteArray) : Option (Bool) :=
  M_r16_Depends_L3 a0 a2 g g 0 [a1]
set_option maxHeartbeats 16000000 in
set_option maxRecDepth 100000 in
theorem A_r16_Depends (g : Nat) (a0 : List GRule) (a1 : ByteArray) (a2 : ByteArray) {r1 : Bool} (h : M_r16_Depends g a0 a1 a2 = some r1) : ACall cx 31 [.sl 4 (a0.map cGRule), .c (.string a1), .c (.string a2)] (.c (.bool r1)) := by
  refine aOf Tryd.func31 rfl (by decide) rfl (Nat.le_of_ble_eq_true rfl) ?_; intro _; unfold M_r16_Depends at h; refine aSR ?_; intro _; refine dr_XDLDeps ?_; refine aSR ?_; intro _; refine dr_XDLDeps ?_; refine aSq ?_; refine aSR ?_; intro _; refine dr_XDLDeps ?_; refine aBk ?_; refine awp_loop (α := Nat × Int × (List ByteArray)) (fun x => mkS 78 [(0, .sl 4 (a0.map cGRule)), (2, .c (.string a2)), (7, .own 12 0 0 x.2.2.length), (8, .c (.int .i64 x.2.1))] [(12, ⟨9, 1, false, x.2.2.map cS⟩)]) (fun x => M_r16_Depends_L3 a0 a2 g x.1 x.2.1 x.2.2 = some r1) (fun x => x.1) (g, 0, [a1]) h ?_ ?_
  · exact ca_XDLDeps
  · intro x1 h; intro _; obtain ⟨k1043, m2, h⟩ := succ_of (f := fun n => M_r16_Depends_L3 a0 a2 g n x1.2.1 x1.2.2) rfl h; replace h : M_r16_Depends_L3 a0 a2 g (k1043 + 1) x1.2.1 x1.2.2 = some r1 := h; rw [M_r16_Depends_L3] at h; refine aSq ?_; refine aSR ?_; intro _; refine dr_XDLDeps ?_; refine aCd ?_; intro _; refine spl h (fun c3 h => ?_) (fun c3 h => ?_)
    · refine aSk ?_; obtain ⟨o4, h, hK5⟩ := ob1_ok h; refine awp_cut (α := List ByteArray) (fun v1302 => mkS 78 [(0, .sl 4 (a0.map cGRule)), (2, .c (.string a2)), (7, .own 12 0 0 v1302.length), (8, .c (.int .i64 x1.2.1))] [(12, ⟨9, 1, false, v1302.map cS⟩)]) (fun v => o4 = (.inl v)) ?_ ?_
      · refine aBk ?_; refine aSq ?_; refine aSR ?_; intro _; obtain ⟨y1305, w6, h⟩ := ixn_ok h; refine Exists.intro (cS y1305) (And.intro (by first | exact map_at' w6 | (have w := map_at' (f := cS) w6; simpa [cS, Value.cells] using w)) ?_); intro _; obtain ⟨q7, h⟩ := grd_ok h; obtain ⟨q8, h⟩ := grd_ok h; refine pr_XDLDeps ?_; refine pr_XDLDeps ?_; refine dr_XDLDeps ?_; refine aCd ?_; intro _; refine spl h (fun c9 h => ?_) (fun c9 h => ?_)
        · refine aSR ?_; intro _; refine dr_XDLDeps ?_; refine aRt ?_; have j10 := Option.some.inj h; subst j10; replace h := (osum_r hK5); intro _; obtain rfl := inj1 h; exact ca_XDLDeps
        · refine aSk ?_; refine aSR ?_; intro _; refine dr_XDLDeps ?_; refine aBk ?_; refine awp_loop (α := Nat × Int × (List ByteArray)) (fun x => mkS 78 [(0, .sl 4 (a0.map cGRule)), (2, .c (.string a2)), (7, .own 12 0 0 x.2.2.length), (8, .c (.int .i64 x1.2.1)), (9, .c (.int .i64 x.2.1))] [(12, ⟨9, 1, false, x.2.2.map cS⟩)]) (fun x => M_r16_Depends_L2 a0 g x1.2.1 x.1 x.2.1 x.2.2 = some o4) (fun x => x.1) (g, 0, x1.2.2) h ?_ ?_
          · exact ca_XDLDeps
          · intro x11 h; intro _; obtain ⟨k1478, m12, h⟩ := succ_of (f := fun n => M_r16_Depends_L2 a0 g x1.2.1 n x11.2.1 x11.2.2) rfl h; replace h : M_r16_Depends_L2 a0 g x1.2.1 (k1478 + 1) x11.2.1 x11.2.2 = some o4 := h; rw [M_r16_Depends_L2] at h; refine aSq ?_; refine aSR ?_; intro _; refine dr_XDLDeps ?_; refine aCd ?_; intro _; refine spl h (fun c13 h => ?_) (fun c13 h => ?_)
            · refine aSk ?_; obtain ⟨o14, h, hK15⟩ := ob1_ok h; refine awp_cut (α := List ByteArray) (fun v1520 => mkS 78 [(0, .sl 4 (a0.map cGRule)), (2, .c (.string a2)), (7, .own 12 0 0 v1520.length), (8, .c (.int .i64 x1.2.1)), (9, .c (.int .i64 x11.2.1))] [(12, ⟨9, 1, false, v1520.map cS⟩)]) (fun v => o14 = v) ?_ ?_
              · refine aBk ?_; refine aSR ?_; intro _; refine dr_XDLDeps ?_; refine aBk ?_; refine awp_loop (α := Nat × Int × (List ByteArray)) (fun x => mkS 78 [(0, .sl 4 (a0.map cGRule)), (2, .c (.string a2)), (7, .own 12 0 0 x.2.2.length), (8, .c (.int .i64 x1.2.1)), (9, .c (.int .i64 x11.2.1)), (10, .c (.int .i64 x.2.1))] [(12, ⟨9, 1, false, x.2.2.map cS⟩)]) (fun x => M_r16_Depends_L1 a0 g x1.2.1 x11.2.1 x.1 x.2.1 x.2.2 = some o14) (fun x => x.1) (g, 0, x11.2.2) h ?_ ?_
                · exact ca_XDLDeps
                · intro x16 h; intro _; obtain ⟨k1550, m17, h⟩ := succ_of (f := fun n => M_r16_Depends_L1 a0 g x1.2.1 x11.2.1 n x16.2.1 x16.2.2) rfl h; replace h : M_r16_Depends_L1 a0 g x1.2.1 x11.2.1 (k1550 + 1) x16.2.1 x16.2.2 = some o14 := h; rw [M_r16_Depends_L1] at h; obtain ⟨o18, h, hK19⟩ := ob1_ok h; refine awp_cut (α := Unit) (fun _ => mkS 78 [(0, .sl 4 (a0.map cGRule)), (2, .c (.string a2)), (7, .own 12 0 0 x16.2.2.length), (8, .c (.int .i64 x1.2.1)), (9, .c (.int .i64 x11.2.1)), (10, .c (.int .i64 x16.2.1))] [(12, ⟨9, 1, false, x16.2.2.map cS⟩)]) (fun v => o18 = (.inl v)) ?_ ?_
                  · refine aSR ?_; intro _; obtain ⟨y1555, w20, q21, h⟩ := ix_ok h; refine Exists.intro (cGRule y1555) (And.intro (map_at' w20) ?_); intro _; refine spl h (fun c22 h => ?_) (fun c22 h => ?_)
                    · intro _; obtain ⟨y1556, w23, q24, h⟩ := ix_ok h; refine Exists.intro (cGRule y1556) (And.intro (map_at' w23) ?_); intro _; obtain ⟨y1557, w25, h⟩ := ixn_ok h; refine Exists.intro (cS y1557) (And.intro (by first | exact map_at' w25 | (have w := map_at' (f := cS) w25; simpa [cS, Value.cells] using w)) ?_); intro _; obtain ⟨q26, h⟩ := grd_ok h; obtain ⟨q27, h⟩ := grd_ok h; refine pr_XDLDeps ?_; refine pr_XDLDeps ?_; refine pr_XDLDeps ?_; refine pr_XDLDeps ?_; refine dr_XDLDeps ?_; refine aCd ?_; intro _; refine spl h (fun c28 h => ?_) (fun c28 h => ?_)
                      · refine aSk ?_; refine ⟨(), (Option.some.inj h).symm, ?_⟩; exact ca_XDLDeps
                      · refine aEx ?_; have j29 := Option.some.inj h; subst j29; replace h := (osum_r hK19); refine ⟨x16.2.2, (Option.some.inj h).symm, ?_⟩; exact ca_XDLDeps
                    · intro _; refine pr_XDLDeps ?_; refine dr_XDLDeps ?_; refine aCd ?_; intro _; refine litF ?_; refine aEx ?_; have j30 := Option.some.inj h; subst j30; replace h := (osum_r hK19); refine ⟨x16.2.2, (Option.some.inj h).symm, ?_⟩; exact ca_XDLDeps
                  · rintro _ ho; have ho := ho.symm; subst ho; intro _; replace h := (osum_l hK19); refine aSq ?_; refine aBk ?_; refine aSR ?_; intro _; obtain ⟨y1558, w31, q32, h⟩ := ix_ok h; refine Exists.intro (cGRule y1558) (And.intro (map_at' w31) ?_); intro _; obtain ⟨y1559, w33, q34, h⟩ := ix_ok h; refine Exists.intro (cGAtom y1559) (And.intro (map_at' w33) ?_); intro _; obtain ⟨q35, h⟩ := grd_ok h; obtain ⟨z1560, u36, h⟩ := ob1_ok h; refine clb_XDLDeps [12] rfl rfl (A_r16_has g x16.2.2 y1559.Name u36) ?_; intro _; refine pr_XDLDeps ?_; refine pr_XDLDeps ?_; refine dr_XDLDeps ?_; refine aCd ?_; intro _; refine spl h (fun c37 h => ?_) (fun c37 h => ?_)
                    · refine aRg ?_; intro _; obtain ⟨y1561, w38, q39, h⟩ := ix_ok h; refine Exists.intro (cGRule y1561) (And.intro (map_at' w38) ?_); intro _; obtain ⟨y1562, w40, q41, h⟩ := ix_ok h; refine Exists.intro (cGAtom y1562) (And.intro (map_at' w40) ?_); intro _; obtain ⟨q42, h⟩ := grd_ok h; refine pr_XDLDeps ?_; refine pr_XDLDeps ?_; refine pl_XDLDeps ?_; refine pl_XDLDeps ?_; refine And.intro (by first | with_reducible assumption | (simp; omega) | (show (x16.2.2.length + 1) * 16 ≤ 140737488355328; with_reducible assumption) | omega | (simp; omega)) ?_; refine pe_XDLDeps ?_; refine dr_XDLDeps ?_; refine aRg ?_; intro _; refine dr_XDLDeps ?_; refine ⟨(k1550, (IntKind.i64.wrap (x16.2.1 + 1)), (x16.2.2 ++ [y1562.Name])), h, ltS m17, ?_⟩; exact ca_XDLDeps
                    · refine aSk ?_; refine aRg ?_; intro _; refine dr_XDLDeps ?_; refine ⟨(k1550, (IntKind.i64.wrap (x16.2.1 + 1)), x16.2.2), h, ltS m17, ?_⟩; exact ca_XDLDeps
              · rintro v1520 ho; have ho := ho.symm; subst ho; intro _; replace h := hK15; refine aRg ?_; intro _; refine dr_XDLDeps ?_; refine ⟨(k1478, (IntKind.i64.wrap (x11.2.1 + 1)), v1520), h, ltS m12, ?_⟩; exact ca_XDLDeps
            · refine aEx ?_; refine ⟨x11.2.2, (Option.some.inj h).symm, ?_⟩; exact ca_XDLDeps
      · rintro v1302 ho; have ho := ho.symm; subst ho; intro _; replace h := (osum_l hK5); refine aRg ?_; intro _; refine dr_XDLDeps ?_; refine ⟨(k1043, (IntKind.i64.wrap (x1.2.1 + 1)), v1302), h, ltS m2, ?_⟩; exact ca_XDLDeps
    · refine aEx ?_; refine aSR ?_; intro _; refine dr_XDLDeps ?_; refine aRt ?_; intro _; obtain rfl := inj1 h; exact ca_XDLDeps
def M_l16_DatalogDepends_L1 (a0 : GProgram) (a2 : ByteArray × ByteArray) (g : Nat) : Nat → Int → Option (Unit ⊕ Bool)
  | 0, _ => none
  | k63 + 1, v62 =>
    sel (decide (v62 < 2))
     (grd (0 ≤ v62) (grd (v62 < 2) (ixn [a2.1, a2.2] (0 + (v62).toNat * 1) (fun y64 =>
       grd (0 ≤ (IntKind.i64.wrap (1 - v62))) (grd ((IntKind.i64.wrap (1 - v62)) < 2) (ixn [a2.1, a2.2] (0 + ((IntKind.i64.wrap (1 - v62))).toNat * 1) (fun y65 =>
        ob1 (M_datalog_Depends g a0.Rules y64 y65) (fun z66 =>
         ixn [a2.1, a2.2] (0 + (v62).toNat * 1) (fun y67 =>
          ixn [a2.1, a2.2] (0 + ((IntKind.i64.wrap (1 - v62))).toNat * 1) (fun y68 =>
           ob1 (M_r16_Depends g a0.Rules y67 y68) (fun z69 =>
            sel (!(z66 == z69))
             (some (.inr false))
             (ixn [a2.1, a2.2] (0 + (v62).toNat * 1) (fun y70 =>
               ixn [a2.1, a2.2] (0 + (v62).toNat * 1) (fun y71 =>
                ob1 (M_datalog_Depends g a0.Rules y70 y71) (fun z72 =>
                 sel (!z72)
                  (some (.inr false))
                  (M_l16_DatalogDepends_L1 a0 a2 g k63 (IntKind.i64.wrap (v62 + 1))))))))))))))))))
     (some (.inl ()))
def M_l16_DatalogDepends_L2 (a0 : GProgram) (a1 : GAtom) (g : Nat) (z73 : List GAtom) : Nat → Int → (List GAtom) → Option (List GAtom)
  | 0, _, _ => none
  | k109 + 1, v107, v108 =>
    sel (decide (v107 < ((z73.map cGAtom).length : Int)))
     (ix z73 v107 (fun y110 =>
       ob1 (M_datalog_Depends g a0.Rules y110.Name a1.Name) (fun z111 =>
        sel (!z111)
         (ix z73 v107 (fun y112 =>
           grd ((v108.length + 1) * 40 ≤ 140737488355328) (M_l16_DatalogDepends_L2 a0 a1 g z73 k109 (IntKind.i64.wrap (v107 + 1)) (v108 ++ [y112]))))
         (M_l16_DatalogDepends_L2 a0 a1 g z73 k109 (IntKind.i64.wrap (v107 + 1)) v108))))
     (some v108)
def M_l16_DatalogDepends_L3 (a0 : GProgram) (a1 : GAtom) (g : Nat) (v97 : List GAtom) (z75 : List GAtom) : Nat → Int → (List GAtom) → Option (Bool)
  | 0, _, _ => none
  | k123 + 1, v121, v122 =>
    sel (decide (v121 < ((z75.map cGAtom).length : Int)))
     (ix z75 v121 (fun y124 =>
       ob1 (M_datalog_Depends g a0.Rules y124.Name a1.Name) (fun z125 =>
        sel (!z125)
         (ix z75 v121 (fun y126 =>
           grd ((v122.length + 1) * 40 ≤ 140737488355328) (M_l16_DatalogDepends_L3 a0 a1 g v97 z75 k123 (IntKind.i64.wrap (v121 + 1)) (v122 ++ [y126]))))
         (M_l16_DatalogDepends_L3 a0 a1 g v97 z75 k123 (IntKind.i64.wrap (v121 + 1)) v122))))
     (grd (v97.length ≤ 140737488355328) (grd (v122.length ≤ 140737488355328) (ob1 (M_r10_SameAtoms g v97 v122) (fun z127 =>
       some z127))))
def M_l16_DatalogDepends (g : Nat) (a0 : GProgram) (a1 : GAtom) (a2 : ByteArray × ByteArray) : Option (Bool) :=
  grd ((0 + a0.Facts.length) * 40 ≤ 140737488355328) (grd ((a0.Facts.length + 1) * 40 ≤ 140737488355328) (ob1 (grd (a0.Facts.length + 1 ≤ 140737488355328) (ob1 (M_stratagem_stratagemlaw16_Program_Large g ({ Facts := (a0.Facts ++ [a1]), Rules := a0.Rules : GProgram })) (fun z7 =>
    sel z7
     (ob1 (M_l16_awake g) (fun z10 =>
       some (.inr z10)))
     (ob1 (M_l16_awake g) (fun z8 =>
       sel (!z8)
        (ob1 (M_l16_awake g) (fun z9 =>
          some (.inr z9)))
        (some (.inl ())))))) : Option (Unit ⊕ Bool))
   (osum
   (fun _ => ob1 (M_l16_DatalogDepends_L1 a0 a2 g g 0 : Option (Unit ⊕ Bool))
      (osum
      (fun _ => ob2 (M_datalog_Solve g a0.Facts a0.Rules) (fun z73 z74 =>
         grd (a0.Facts.length + 1 ≤ 140737488355328) (ob2 (M_datalog_Solve g (a0.Facts ++ [a1]) a0.Rules) (fun z75 z76 =>
          ob1 (erM z74
            (erM z76
              (some (.inl ()))
              (fun _ => some (.inr true)))
            (fun _ => some (.inr true)) : Option (Unit ⊕ Bool))
           (osum
           (fun _ => ob1 (M_l16_DatalogDepends_L2 a0 a1 g z73 g 0 [] : Option (List GAtom))
              (fun v97 => M_l16_DatalogDepends_L3 a0 a1 g v97 z75 g 0 []))
           (fun r79 => some r79))))))
      (fun r41 => some r41)))
   (fun r5 => some r5))))
set_option maxHeartbeats 16000000 in
set_option maxRecDepth 100000 in
theorem A_l16_DatalogDepends (g : Nat) (a0 : GProgram) (a1 : GAtom) (a2 : ByteArray × ByteArray) {r1 : Bool} (h : M_l16_DatalogDepends g a0 a1 a2 = some r1) : ACall cx 10 [.agg [.sl 2 (a0.Facts.map cGAtom), .sl 4 (a0.Rules.map cGRule)], .agg [.c (.string a1.Name), .sl 1 (a1.Args.map cS)], .agg [.c (.string a2.1), .c (.string a2.2)]] (.c (.bool r1)) := by
  refine aOf Tryd.func10 rfl (by decide) rfl (Nat.le_of_ble_eq_true rfl) ?_; intro _; unfold M_l16_DatalogDepends at h; refine aSq ?_; refine awp_regionO [2] ?_; intro _; intro _; refine ⟨rfl, _, lf_boxR rfl rfl (Nat.le_of_ble_eq_true rfl) rfl rfl, ?_⟩; intro _; refine dr_XDLDeps ?_; refine aSR ?_; intro _; obtain ⟨q1, h⟩ := grd_ok h; obtain ⟨q2, h⟩ := grd_ok h; refine pl_XDLDeps ?_; refine And.intro (by first | with_reducible assumption | (simp; omega) | (show (0 + a0.Facts.length) * 40 ≤ 140737488355328; with_reducible assumption) | omega | (simp; omega)) ?_; refine pe_XDLDeps ?_; refine pl_XDLDeps ?_; refine pl_XDLDeps ?_; refine And.intro (by first | with_reducible assumption | (simp; omega) | (show (a0.Facts.length + 1) * 40 ≤ 140737488355328; with_reducible assumption) | omega | (simp; omega)) ?_; refine pe_XDLDeps ?_; refine dr_XDLDeps ?_; obtain ⟨o3, h, hK4⟩ := ob1_ok h; refine awp_cut (α := Unit) (fun _ => mkS 144 [(3, .ptr 3 0 0 0), (4, .ptr 4 0 0 0), (5, .ptr 5 0 0 0), (7, .ptr 7 0 0 0)] [(3, ⟨38, 2, true, [[.sl 2 (a0.Facts.map cGAtom), .sl 4 (a0.Rules.map cGRule)]]⟩), (4, ⟨24, 2, true, [[.c (.string a1.Name), .sl 1 (a1.Args.map cS)]]⟩), (5, ⟨58, 1, false, [a2.1, a2.2].map cS⟩), (7, ⟨38, 2, true, [[.own 17 0 0 (a0.Facts.length + 1), .sl 4 (a0.Rules.map cGRule)]]⟩), (17, ⟨24, 2, false, (a0.Facts ++ [a1]).map cGAtom⟩)]) (fun v => o3 = (.inl v)) ?_ ?_
  · refine aSR ?_; intro _; obtain ⟨q5, h⟩ := grd_ok h; obtain ⟨z7, u6, h⟩ := ob1_ok h; refine clb_XDLDeps [17] rfl rfl (A_stratagem_stratagemlaw16_Program_Large g ({ Facts := (a0.Facts ++ [a1]), Rules := a0.Rules : GProgram }) u6) ?_; intro _; refine spf h (fun c7 h => ?_) (fun c7 h => ?_)
    · intro _; obtain ⟨z8, u8, h⟩ := ob1_ok h; refine cl_XDLDeps rfl (A_l16_awake g u8) ?_; intro _; refine dr_XDLDeps ?_; refine aCd ?_; intro _; refine spl h (fun c9 h => ?_) (fun c9 h => ?_)
      · refine aSR ?_; intro _; obtain ⟨z9, u10, h⟩ := ob1_ok h; refine cl_XDLDeps rfl (A_l16_awake g u10) ?_; intro _; refine dr_XDLDeps ?_; refine aRt ?_; have j11 := Option.some.inj h; subst j11; replace h := (osum_r hK4); intro _; obtain rfl := inj1 h; exact ca_XDLDeps
      · refine aSk ?_; refine ⟨(), (Option.some.inj h).symm, ?_⟩; exact ca_XDLDeps
    · intro _; refine dr_XDLDeps ?_; refine aCd ?_; intro _; refine litT ?_; refine aSR ?_; intro _; obtain ⟨z10, u12, h⟩ := ob1_ok h; refine cl_XDLDeps rfl (A_l16_awake g u12) ?_; intro _; refine dr_XDLDeps ?_; refine aRt ?_; have j13 := Option.some.inj h; subst j13; replace h := (osum_r hK4); intro _; obtain rfl := inj1 h; exact ca_XDLDeps
  · rintro _ ho; have ho := ho.symm; subst ho; intro _; replace h := (osum_l hK4); obtain ⟨o14, h, hK15⟩ := ob1_ok h; refine awp_cut (α := Unit) (fun _ => mkS 144 [(3, .ptr 3 0 0 0), (4, .ptr 4 0 0 0), (7, .ptr 7 0 0 0)] [(3, ⟨38, 2, true, [[.sl 2 (a0.Facts.map cGAtom), .sl 4 (a0.Rules.map cGRule)]]⟩), (4, ⟨24, 2, true, [[.c (.string a1.Name), .sl 1 (a1.Args.map cS)]]⟩), (7, ⟨38, 2, true, [[.own 17 0 0 (a0.Facts.length + 1), .sl 4 (a0.Rules.map cGRule)]]⟩), (17, ⟨24, 2, false, (a0.Facts ++ [a1]).map cGAtom⟩)]) (fun v => o14 = (.inl v)) ?_ ?_
    · refine aSR ?_; intro _; refine dr_XDLDeps ?_; refine aBk ?_; refine awp_loop (α := Nat × Int) (fun x => mkS 144 [(3, .ptr 3 0 0 0), (4, .ptr 4 0 0 0), (5, .ptr 5 0 0 0), (7, .ptr 7 0 0 0), (8, .c (.int .i64 x.2))] [(3, ⟨38, 2, true, [[.sl 2 (a0.Facts.map cGAtom), .sl 4 (a0.Rules.map cGRule)]]⟩), (4, ⟨24, 2, true, [[.c (.string a1.Name), .sl 1 (a1.Args.map cS)]]⟩), (5, ⟨58, 1, false, [a2.1, a2.2].map cS⟩), (7, ⟨38, 2, true, [[.own 17 0 0 (a0.Facts.length + 1), .sl 4 (a0.Rules.map cGRule)]]⟩), (17, ⟨24, 2, false, (a0.Facts ++ [a1]).map cGAtom⟩)]) (fun x => M_l16_DatalogDepends_L1 a0 a2 g x.1 x.2 = some o14) (fun x => x.1) (g, 0) h ?_ ?_
      · exact ca_XDLDeps
      · intro x16 h; intro _; obtain ⟨k63, m17, h⟩ := succ_of (f := fun n => M_l16_DatalogDepends_L1 a0 a2 g n x16.2) rfl h; replace h : M_l16_DatalogDepends_L1 a0 a2 g (k63 + 1) x16.2 = some o14 := h; rw [M_l16_DatalogDepends_L1] at h; refine aSq ?_; refine aSR ?_; intro _; refine dr_XDLDeps ?_; refine aCd ?_; intro _; refine spl h (fun c18 h => ?_) (fun c18 h => ?_)
        · refine aSk ?_; refine aSq ?_; refine aBk ?_; refine aSR ?_; intro _; obtain ⟨q19, h⟩ := grd_ok h; obtain ⟨q20, h⟩ := grd_ok h; refine ⟨_, lf_arrR rfl (Nat.le_of_ble_eq_true rfl) rfl rfl rfl rfl (tyTab_ok 58 _ rfl) rfl (tyTab_ok 9 _ rfl) (by first | assumption | omega) (by first | assumption | omega), ?_⟩; intro _; obtain ⟨y64, w21, h⟩ := ixn_ok h; refine Exists.intro (cS y64) (And.intro (by first | exact map_at' w21 | (have w := map_at' (f := cS) w21; simpa [cS, Value.cells] using w)) ?_); intro _; obtain ⟨q22, h⟩ := grd_ok h; obtain ⟨q23, h⟩ := grd_ok h; refine ⟨_, lf_arrR rfl (Nat.le_of_ble_eq_true rfl) rfl rfl rfl rfl (tyTab_ok 58 _ rfl) rfl (tyTab_ok 9 _ rfl) (by first | assumption | omega) (by first | assumption | omega), ?_⟩; intro _; obtain ⟨y65, w24, h⟩ := ixn_ok h; refine Exists.intro (cS y65) (And.intro (by first | exact map_at' w24 | (have w := map_at' (f := cS) w24; simpa [cS, Value.cells] using w)) ?_); intro _; obtain ⟨z66, u25, h⟩ := ob1_ok h; refine cl_XDLDeps rfl (A_datalog_Depends g a0.Rules y64 y65 u25) ?_; intro _; refine ⟨_, lf_arrR rfl (Nat.le_of_ble_eq_true rfl) rfl rfl rfl rfl (tyTab_ok 58 _ rfl) rfl (tyTab_ok 9 _ rfl) (by first | assumption | omega) (by first | assumption | omega), ?_⟩; intro _; obtain ⟨y67, w26, h⟩ := ixn_ok h; refine Exists.intro (cS y67) (And.intro (by first | exact map_at' w26 | (have w := map_at' (f := cS) w26; simpa [cS, Value.cells] using w)) ?_); intro _; refine ⟨_, lf_arrR rfl (Nat.le_of_ble_eq_true rfl) rfl rfl rfl rfl (tyTab_ok 58 _ rfl) rfl (tyTab_ok 9 _ rfl) (by first | assumption | omega) (by first | assumption | omega), ?_⟩; intro _; obtain ⟨y68, w27, h⟩ := ixn_ok h; refine Exists.intro (cS y68) (And.intro (by first | exact map_at' w27 | (have w := map_at' (f := cS) w27; simpa [cS, Value.cells] using w)) ?_); intro _; obtain ⟨z69, u28, h⟩ := ob1_ok h; refine cl_XDLDeps rfl (A_r16_Depends g a0.Rules y67 y68 u28) ?_; intro _; refine spf h (fun c29 h => ?_) (fun c29 h => ?_)
          · intro _; refine ⟨_, lf_arrR rfl (Nat.le_of_ble_eq_true rfl) rfl rfl rfl rfl (tyTab_ok 58 _ rfl) rfl (tyTab_ok 9 _ rfl) (by first | assumption | omega) (by first | assumption | omega), ?_⟩; intro _; obtain ⟨y70, w30, h⟩ := ixn_ok h; refine Exists.intro (cS y70) (And.intro (by first | exact map_at' w30 | (have w := map_at' (f := cS) w30; simpa [cS, Value.cells] using w)) ?_); intro _; refine ⟨_, lf_arrR rfl (Nat.le_of_ble_eq_true rfl) rfl rfl rfl rfl (tyTab_ok 58 _ rfl) rfl (tyTab_ok 9 _ rfl) (by first | assumption | omega) (by first | assumption | omega), ?_⟩; intro _; obtain ⟨y71, w31, h⟩ := ixn_ok h; refine Exists.intro (cS y71) (And.intro (by first | exact map_at' w31 | (have w := map_at' (f := cS) w31; simpa [cS, Value.cells] using w)) ?_); intro _; obtain ⟨z72, u32, h⟩ := ob1_ok h; refine cl_XDLDeps rfl (A_datalog_Depends g a0.Rules y70 y71 u32) ?_; intro _; refine dr_XDLDeps ?_; refine aCd ?_; intro _; refine spl h (fun c33 h => ?_) (fun c33 h => ?_)
            · refine aSR ?_; intro _; refine dr_XDLDeps ?_; refine aRt ?_; have j34 := Option.some.inj h; subst j34; replace h := (osum_r hK15); intro _; obtain rfl := inj1 h; exact ca_XDLDeps
            · refine aSk ?_; refine aRg ?_; intro _; refine dr_XDLDeps ?_; refine ⟨(k63, (IntKind.i64.wrap (x16.2 + 1))), h, ltS m17, ?_⟩; exact ca_XDLDeps
          · intro _; refine dr_XDLDeps ?_; refine aCd ?_; intro _; refine litT ?_; refine aSR ?_; intro _; refine dr_XDLDeps ?_; refine aRt ?_; have j35 := Option.some.inj h; subst j35; replace h := (osum_r hK15); intro _; obtain rfl := inj1 h; exact ca_XDLDeps
        · refine aEx ?_; refine ⟨(), (Option.some.inj h).symm, ?_⟩; exact ca_XDLDeps
    · rintro _ ho; have ho := ho.symm; subst ho; intro _; replace h := (osum_l hK15); refine aSR ?_; intro _; obtain ⟨z73, z74, u36, h⟩ := ob2_ok h; refine cl_XDLDeps rfl (A_datalog_Solve g a0.Facts a0.Rules u36) ?_; intro _; refine dr_XDLDeps ?_; refine aSR ?_; intro _; obtain ⟨q37, h⟩ := grd_ok h; obtain ⟨z75, z76, u38, h⟩ := ob2_ok h; refine clf_XDLDeps [(17, ⟨1, none⟩)] rfl rfl (A_datalog_Solve g (a0.Facts ++ [a1]) a0.Rules u38) ?_; intro _; refine dr_XDLDeps ?_; obtain ⟨o39, h, hK40⟩ := ob1_ok h; refine awp_cut (α := Unit) (fun _ => mkS 144 [(3, .ptr 3 0 0 0), (4, .ptr 4 0 0 0), (9, .sl 2 (z73.map cGAtom)), (11, .sl 2 (z75.map cGAtom))] [(3, ⟨38, 2, true, [[.sl 2 (a0.Facts.map cGAtom), .sl 4 (a0.Rules.map cGRule)]]⟩), (4, ⟨24, 2, true, [[.c (.string a1.Name), .sl 1 (a1.Args.map cS)]]⟩)]) (fun v => o39 = (.inl v)) ?_ ?_
      · refine aSq ?_; rcases z74 with _ | e81
        · replace h := erM_nil h; rcases z76 with _ | e82
          · replace h := erM_nil h; refine aRg ?_; intro _; refine litFf ?_; intro _; refine dr_XDLDeps ?_; refine aCd ?_; intro _; refine litF ?_; refine aSk ?_; refine ⟨(), (Option.some.inj h).symm, ?_⟩; exact ca_XDLDeps
          · replace h := erM_no h; refine aRg ?_; intro _; refine litFf ?_; intro _; refine dr_XDLDeps ?_; refine aCd ?_; intro _; refine litT ?_; refine aSR ?_; intro _; refine dr_XDLDeps ?_; refine aRt ?_; have j41 := Option.some.inj h; subst j41; replace h := (osum_r hK40); intro _; obtain rfl := inj1 h; exact ca_XDLDeps
        · replace h := erM_no h; refine aRg ?_; intro _; refine litTf ?_; intro _; refine dr_XDLDeps ?_; refine aCd ?_; intro _; refine litT ?_; refine aSR ?_; intro _; refine dr_XDLDeps ?_; refine aRt ?_; have j42 := Option.some.inj h; subst j42; replace h := (osum_r hK40); intro _; obtain rfl := inj1 h; exact ca_XDLDeps
      · rintro _ ho; have ho := ho.symm; subst ho; intro _; replace h := (osum_l hK40); refine aSR ?_; intro _; refine dr_XDLDeps ?_; obtain ⟨o43, h, hK44⟩ := ob1_ok h; refine awp_cut (α := List GAtom) (fun v97 => mkS 144 [(3, .ptr 3 0 0 0), (4, .ptr 4 0 0 0), (11, .sl 2 (z75.map cGAtom)), (13, .own 116 0 0 v97.length), (14, .c (.slice none 0 0))] [(3, ⟨38, 2, true, [[.sl 2 (a0.Facts.map cGAtom), .sl 4 (a0.Rules.map cGRule)]]⟩), (4, ⟨24, 2, true, [[.c (.string a1.Name), .sl 1 (a1.Args.map cS)]]⟩), (116, ⟨24, 2, false, v97.map cGAtom⟩)]) (fun v => o43 = v) ?_ ?_
        · refine aSR ?_; intro _; refine dr_XDLDeps ?_; refine aBk ?_; refine awp_loop (α := Nat × Int × (List GAtom)) (fun x => mkS 144 [(3, .ptr 3 0 0 0), (4, .ptr 4 0 0 0), (9, .sl 2 (z73.map cGAtom)), (11, .sl 2 (z75.map cGAtom)), (13, .own 116 0 0 x.2.2.length), (14, .c (.slice none 0 0)), (15, .c (.int .i64 x.2.1))] [(3, ⟨38, 2, true, [[.sl 2 (a0.Facts.map cGAtom), .sl 4 (a0.Rules.map cGRule)]]⟩), (4, ⟨24, 2, true, [[.c (.string a1.Name), .sl 1 (a1.Args.map cS)]]⟩), (116, ⟨24, 2, false, x.2.2.map cGAtom⟩)]) (fun x => M_l16_DatalogDepends_L2 a0 a1 g z73 x.1 x.2.1 x.2.2 = some o43) (fun x => x.1) (g, 0, []) h ?_ ?_
          · exact ca_XDLDeps
          · intro x45 h; intro _; obtain ⟨k109, m46, h⟩ := succ_of (f := fun n => M_l16_DatalogDepends_L2 a0 a1 g z73 n x45.2.1 x45.2.2) rfl h; replace h : M_l16_DatalogDepends_L2 a0 a1 g z73 (k109 + 1) x45.2.1 x45.2.2 = some o43 := h; rw [M_l16_DatalogDepends_L2] at h; refine aSq ?_; refine aSR ?_; intro _; refine dr_XDLDeps ?_; refine aCd ?_; intro _; refine spl h (fun c47 h => ?_) (fun c47 h => ?_)
            · refine aSk ?_; refine aSq ?_; refine aBk ?_; refine aSR ?_; intro _; obtain ⟨y110, w48, q49, h⟩ := ix_ok h; refine Exists.intro (cGAtom y110) (And.intro (map_at' w48) ?_); intro _; obtain ⟨z111, u50, h⟩ := ob1_ok h; refine cl_XDLDeps rfl (A_datalog_Depends g a0.Rules y110.Name a1.Name u50) ?_; intro _; refine pr_XDLDeps ?_; refine dr_XDLDeps ?_; refine aCd ?_; intro _; refine spl h (fun c51 h => ?_) (fun c51 h => ?_)
              · refine aRg ?_; intro _; obtain ⟨y112, w52, q53, h⟩ := ix_ok h; refine Exists.intro (cGAtom y112) (And.intro (map_at' w52) ?_); intro _; obtain ⟨q54, h⟩ := grd_ok h; refine pr_XDLDeps ?_; refine pl_XDLDeps ?_; refine pl_XDLDeps ?_; refine And.intro (by first | with_reducible assumption | (simp; omega) | (show (x45.2.2.length + 1) * 40 ≤ 140737488355328; with_reducible assumption) | omega | (simp; omega)) ?_; refine pe_XDLDeps ?_; refine dr_XDLDeps ?_; refine aRg ?_; intro _; refine dr_XDLDeps ?_; refine ⟨(k109, (IntKind.i64.wrap (x45.2.1 + 1)), (x45.2.2 ++ [y112])), h, ltS m46, ?_⟩; exact ca_XDLDeps
              · refine aSk ?_; refine aRg ?_; intro _; refine dr_XDLDeps ?_; refine ⟨(k109, (IntKind.i64.wrap (x45.2.1 + 1)), x45.2.2), h, ltS m46, ?_⟩; exact ca_XDLDeps
            · refine aEx ?_; refine ⟨x45.2.2, (Option.some.inj h).symm, ?_⟩; exact ca_XDLDeps
        · rintro v97 ho; have ho := ho.symm; subst ho; intro _; replace h := hK44; refine aSq ?_; refine aSR ?_; intro _; refine dr_XDLDeps ?_; refine aBk ?_; refine awp_loop (α := Nat × Int × (List GAtom)) (fun x => mkS 144 [(3, .ptr 3 0 0 0), (4, .ptr 4 0 0 0), (11, .sl 2 (z75.map cGAtom)), (13, .own 116 0 0 v97.length), (14, .own 140 0 0 x.2.2.length), (16, .c (.int .i64 x.2.1))] [(3, ⟨38, 2, true, [[.sl 2 (a0.Facts.map cGAtom), .sl 4 (a0.Rules.map cGRule)]]⟩), (4, ⟨24, 2, true, [[.c (.string a1.Name), .sl 1 (a1.Args.map cS)]]⟩), (116, ⟨24, 2, false, v97.map cGAtom⟩), (140, ⟨24, 2, false, x.2.2.map cGAtom⟩)]) (fun x => M_l16_DatalogDepends_L3 a0 a1 g v97 z75 x.1 x.2.1 x.2.2 = some r1) (fun x => x.1) (g, 0, []) h ?_ ?_
          · exact ca_XDLDeps
          · intro x55 h; intro _; obtain ⟨k123, m56, h⟩ := succ_of (f := fun n => M_l16_DatalogDepends_L3 a0 a1 g v97 z75 n x55.2.1 x55.2.2) rfl h; replace h : M_l16_DatalogDepends_L3 a0 a1 g v97 z75 (k123 + 1) x55.2.1 x55.2.2 = some r1 := h; rw [M_l16_DatalogDepends_L3] at h; refine aSq ?_; refine aSR ?_; intro _; refine dr_XDLDeps ?_; refine aCd ?_; intro _; refine spl h (fun c57 h => ?_) (fun c57 h => ?_)
            · refine aSk ?_; refine aSq ?_; refine aBk ?_; refine aSR ?_; intro _; obtain ⟨y124, w58, q59, h⟩ := ix_ok h; refine Exists.intro (cGAtom y124) (And.intro (map_at' w58) ?_); intro _; obtain ⟨z125, u60, h⟩ := ob1_ok h; refine cl_XDLDeps rfl (A_datalog_Depends g a0.Rules y124.Name a1.Name u60) ?_; intro _; refine pr_XDLDeps ?_; refine dr_XDLDeps ?_; refine aCd ?_; intro _; refine spl h (fun c61 h => ?_) (fun c61 h => ?_)
              · refine aRg ?_; intro _; obtain ⟨y126, w62, q63, h⟩ := ix_ok h; refine Exists.intro (cGAtom y126) (And.intro (map_at' w62) ?_); intro _; obtain ⟨q64, h⟩ := grd_ok h; refine pr_XDLDeps ?_; refine pl_XDLDeps ?_; refine pl_XDLDeps ?_; refine And.intro (by first | with_reducible assumption | (simp; omega) | (show (x55.2.2.length + 1) * 40 ≤ 140737488355328; with_reducible assumption) | omega | (simp; omega)) ?_; refine pe_XDLDeps ?_; refine dr_XDLDeps ?_; refine aRg ?_; intro _; refine dr_XDLDeps ?_; refine ⟨(k123, (IntKind.i64.wrap (x55.2.1 + 1)), (x55.2.2 ++ [y126])), h, ltS m56, ?_⟩; exact ca_XDLDeps
              · refine aSk ?_; refine aRg ?_; intro _; refine dr_XDLDeps ?_; refine ⟨(k123, (IntKind.i64.wrap (x55.2.1 + 1)), x55.2.2), h, ltS m56, ?_⟩; exact ca_XDLDeps
            · refine aEx ?_; refine aSR ?_; intro _; obtain ⟨q65, h⟩ := grd_ok h; obtain ⟨q66, h⟩ := grd_ok h; obtain ⟨z127, u67, h⟩ := ob1_ok h; refine clb_XDLDeps [116, 140] rfl rfl (A_r10_SameAtoms g v97 x55.2.2 u67) ?_; intro _; refine dr_XDLDeps ?_; refine aRt ?_; intro _; obtain rfl := inj1 h; exact ca_XDLDeps
end Go.Proofs.YtflgpccacloadaaDoor.Am
/- Plain law: DatalogDepends. -/
namespace Go.Proofs.YtflgpccacloadaaDoor.Am
open Go.RowKit
def stepN (K : List ByteArray) (x : GAtom) : List ByteArray := if x.Name ∈ K then K else K ++ [x.Name]
def extN (name : ByteArray) (K : List ByteArray) (r : GRule) : List ByteArray := if r.Head.Name = name then r.Body.foldl stepN K else K
/-- the names that a worklist reaches -/
def bfs (rules : List GRule) (b : ByteArray) : Nat → List ByteArray → Nat → Option Bool
  | 0, _, _ => none
  | k + 1, K, d => match K[d]? with
    | none => some false
    | some n => if n = b then some true else bfs rules b k (rules.foldl (extN n) K) (d + 1)
def tkT (K : List ByteArray) : List (ByteArray × Bool) := K.map fun x => (x, true)
theorem tkT_get (K : List ByteArray) (s : ByteArray) : (getM (tkT K) s).getD false = decide (s ∈ K) := by
  induction K with
  | nil => rfl
  | cons x r ih =>
    unfold tkT at ih ⊢
    rw [List.map_cons, getM]
    by_cases e : x = s
    · rw [if_pos e, decide_eq_true (by rw [e]; exact List.mem_cons_self ..)]; rfl
    · rw [if_neg e, ih]
      exact decide_eq_decide.2 ⟨fun h => List.mem_cons_of_mem _ h, fun h => (List.mem_cons.1 h).resolve_left (fun q => e q.symm)⟩
theorem tkT_set {K : List ByteArray} {s : ByteArray} (h : s ∉ K) : setM (tkT K) s true = tkT (K ++ [s]) := by
  unfold tkT
  rw [setM_none (fun p hp e => h (by obtain ⟨x, hx, rfl⟩ := List.mem_map.1 hp; rw [← e]; exact hx)), List.map_append]
  rfl
theorem stepN_len (K : List ByteArray) (x : GAtom) : (stepN K x).length ≤ K.length + 1 ∧ K.length ≤ (stepN K x).length := by
  unfold stepN
  split <;> simp
theorem stepN_fold : ∀ (l : List GAtom) (K : List ByteArray), (l.foldl stepN K).length ≤ K.length + l.length ∧ K.length ≤ (l.foldl stepN K).length
  | [], K => ⟨Nat.le_refl _, Nat.le_refl _⟩
  | x :: r, K => by
    have h1 := stepN_len K x
    have h2 := stepN_fold r (stepN K x)
    rw [List.foldl_cons]
    simp only [List.length_cons]
    omega
theorem dL1 (r : GRule) (hb : r.Body.length ≤ 1000) : ∀ (k i : Nat) (K : List ByteArray) (d : Nat), i + k = r.Body.length + 1 → i ≤ r.Body.length → d ≤ K.length → K.length + r.Body.length ≤ 1000000 + i →
    M_datalog_Depends_L1 r k (i : Int) (tkT K) (K.drop d) = some (tkT ((r.Body.drop i).foldl stepN K), ((r.Body.drop i).foldl stepN K).drop d) := by
  intro k
  induction k with
  | zero => intro i K d h1 h2; omega
  | succ k ih =>
    intro i K d h1 h2 h3 h4
    rw [M_datalog_Depends_L1]
    by_cases h : i < r.Body.length
    · have hy := List.getElem?_eq_getElem h
      rw [show decide ((i : Int) < ((r.Body.map cGAtom).length : Int)) = true by simp; omega]
      show ix r.Body (i : Int) _ = _
      rw [ix_at hy, tkT_get, sel_not, sel_dec, dropC hy, List.foldl_cons, wrap_eq (by omega) (by omega)]
      unfold stepN
      by_cases e : r.Body[i].Name ∈ K
      · rw [if_pos e, if_pos e]
        exact ih (i + 1) K d (by omega) (by omega) h3 (by omega)
      · rw [if_neg e, if_neg e]
        refine grd_mk (by rw [List.length_drop]; omega) ?_
        rw [tkT_set e, ← List.drop_append_of_le_length h3]
        exact ih (i + 1) (K ++ [r.Body[i].Name]) d (by omega) (by omega) (by simp; omega) (by simp; omega)
    · rw [show decide ((i : Int) < ((r.Body.map cGAtom).length : Int)) = false by simp; omega]
      rw [List.drop_of_length_le (show r.Body.length ≤ i by omega)]
      rfl
theorem extN_len (n : ByteArray) (K : List ByteArray) (r : GRule) : (extN n K r).length ≤ K.length + r.Body.length ∧ K.length ≤ (extN n K r).length := by
  unfold extN
  split
  · exact stepN_fold _ _
  · omega
theorem extN_fold (n : ByteArray) : ∀ (l : List GRule) (K : List ByteArray), (∀ r ∈ l, r.Body.length ≤ 1000) → (l.foldl (extN n) K).length ≤ K.length + l.length * 1000 ∧ K.length ≤ (l.foldl (extN n) K).length
  | [], K, _ => by simp
  | r :: q, K, h => by
    have h1 := extN_len n K r
    have h2 := extN_fold n q (extN n K r) (fun x hx => h x (List.mem_cons_of_mem _ hx))
    have h3 := h r (List.mem_cons_self ..)
    rw [List.foldl_cons, List.length_cons, Nat.succ_mul]
    omega
theorem dL2 (rules : List GRule) (n : ByteArray) (hr : rules.length ≤ 100) (hb : ∀ r ∈ rules, r.Body.length ≤ 1000) : ∀ (k i : Nat) (K : List ByteArray) (d : Nat), i + k = rules.length + 1 → i ≤ rules.length → d ≤ K.length → K.length + rules.length * 1000 ≤ 900000 + i * 1000 →
    M_datalog_Depends_L2 rules n k (i : Int) (tkT K) (K.drop d) = some (tkT ((rules.drop i).foldl (extN n) K), ((rules.drop i).foldl (extN n) K).drop d) := by
  intro k
  induction k with
  | zero => intro i K d h1 h2; omega
  | succ k ih =>
    intro i K d h1 h2 h3 h4
    rw [M_datalog_Depends_L2]
    by_cases h : i < rules.length
    · have hy := List.getElem?_eq_getElem h
      have hm := hb _ (List.getElem_mem h)
      rw [show decide ((i : Int) < ((rules.map cGRule).length : Int)) = true by simp; omega]
      have e1 : (ix rules (i : Int) (fun y499 => sel (!(y499.Head.Name.toList == n.toList)) (some (tkT K, K.drop d)) (M_datalog_Depends_L1 y499 ((((y499.Body.map cGAtom).length : Int)).toNat + 1) 0 (tkT K) (K.drop d))) : Option ((List (ByteArray × Bool)) × (List ByteArray))) = some (tkT (extN n K rules[i]), (extN n K rules[i]).drop d) := by
        rw [ix_at hy, beq_bl, sel_not, sel_dec]
        unfold extN
        by_cases e : rules[i].Head.Name = n
        · rw [if_pos e, if_pos e, show (((rules[i].Body.map cGAtom).length : Int)).toNat + 1 = rules[i].Body.length + 1 by simp]
          have := dL1 rules[i] hm (rules[i].Body.length + 1) 0 K d (by omega) (Nat.zero_le _) h3 (by omega)
          rw [List.drop_zero, show ((0 : Nat) : Int) = 0 from rfl] at this
          exact this
        · rw [if_neg e, if_neg e]
      show ob1 _ _ = _
      rw [e1, ob1_some, dropC hy, List.foldl_cons]
      show M_datalog_Depends_L2 rules n k _ _ _ = _
      have hl := extN_len n K rules[i]
      rw [wrap_eq (by omega) (by omega)]
      exact ih (i + 1) _ d (by omega) (by omega) (by omega) (by omega)
    · rw [show decide ((i : Int) < ((rules.map cGRule).length : Int)) = false by simp; omega]
      rw [List.drop_of_length_le (show rules.length ≤ i by omega)]
      rfl
/-- each name once, all of them known -/
def NmI (U K : List ByteArray) : Prop := K.Nodup ∧ ∀ x ∈ K, x ∈ U
theorem nm_step {U K : List ByteArray} (h : NmI U K) {x : GAtom} (hx : x.Name ∈ U) : NmI U (stepN K x) := by
  unfold stepN
  split
  · exact h
  · rename_i hn
    refine ⟨List.nodup_append.2 ⟨h.1, by simp, fun a ha b hb e => ?_⟩, fun y hy => ?_⟩
    · simp at hb; exact hn (by rw [← hb, ← e]; exact ha)
    · rcases List.mem_append.1 hy with q | q
      · exact h.2 y q
      · rw [List.mem_singleton.1 q]; exact hx
theorem nm_fold {U : List ByteArray} : ∀ (l : List GAtom) {K : List ByteArray}, NmI U K → (∀ x ∈ l, x.Name ∈ U) → NmI U (l.foldl stepN K)
  | [], _, h, _ => h
  | x :: r, _, h, hl => nm_fold r (nm_step h (hl x (List.mem_cons_self ..))) (fun y hy => hl y (List.mem_cons_of_mem _ hy))
theorem nm_ext {U : List ByteArray} (n : ByteArray) : ∀ (l : List GRule) {K : List ByteArray}, NmI U K → (∀ r ∈ l, ∀ x ∈ r.Body, x.Name ∈ U) → NmI U (l.foldl (extN n) K)
  | [], _, h, _ => h
  | r :: q, K, h, hl => by
    rw [List.foldl_cons]
    refine nm_ext n q ?_ (fun x hx => hl x (List.mem_cons_of_mem _ hx))
    unfold extN
    split
    · exact nm_fold _ h (hl r (List.mem_cons_self ..))
    · exact h
def allN (rules : List GRule) : List ByteArray := rules.flatMap fun r => r.Body.map (·.Name)
theorem allN_mem {rules : List GRule} : ∀ r ∈ rules, ∀ x ∈ r.Body, x.Name ∈ allN rules := fun r hr x hx => List.mem_flatMap.2 ⟨r, hr, List.mem_map.2 ⟨x, hx, rfl⟩⟩
section
variable (rules : List GRule) (b : ByteArray) (hr : rules.length ≤ 100) (hb : ∀ r ∈ rules, r.Body.length ≤ 1000) (U : List ByteArray) (hU : ∀ r ∈ rules, ∀ x ∈ r.Body, x.Name ∈ U) (hUl : U.length ≤ 10000)
include hr hb hU hUl
theorem dL3 : ∀ (k : Nat) (K : List ByteArray) (d : Nat), NmI U K → d ≤ K.length → M_datalog_Depends_L3 rules b k (tkT K) (K.drop d) = bfs rules b k K d := by
  intro k
  induction k with
  | zero => intro K d _ _; rfl
  | succ k ih =>
    intro K d hK hd
    have hKl := nodup_sub hK.1 hK.2
    rw [M_datalog_Depends_L3, bfs]
    by_cases h : d < K.length
    · have hy := List.getElem?_eq_getElem h
      rw [dropC hy, hy, decide_eq_true (by simp; omega)]
      rw [show ∀ x y : Option Bool, sel true x y = x from fun _ _ => rfl, show ∀ (f : ByteArray → Option Bool), ixn (K[d] :: K.drop (d + 1)) 0 f = f K[d] from fun f => rfl]
      refine grd_mk (by simp; omega) (grd_mk (by simp; omega) ?_)
      rw [beq_bl, sel_dec]
      simp only []
      by_cases e : K[d] = b
      · rw [if_pos e, if_pos e]
      · rw [if_neg e, if_neg e, show (((rules.map cGRule).length : Int)).toNat + 1 = rules.length + 1 by simp]
        have h2 := dL2 rules K[d] hr hb (rules.length + 1) 0 K (d + 1) (by omega) (Nat.zero_le _) (by omega) (by omega)
        rw [List.drop_zero, show ((0 : Nat) : Int) = 0 from rfl] at h2
        show ob1 (M_datalog_Depends_L2 rules K[d] (rules.length + 1) 0 (tkT K) (K.drop (d + 1))) _ = _
        rw [h2, ob1_some]
        have hl := extN_fold K[d] rules K hb
        exact ih (rules.foldl (extN K[d]) K) (d + 1) (nm_ext K[d] rules hK hU) (by omega)
    · rw [List.drop_of_length_le (by omega), List.getElem?_eq_none (by omega)]
      rfl
theorem rd1 (g v : Nat) (w : Nat) (r : GRule) (hrw : rules[w]? = some r) (n : ByteArray) (hg : 2000000 < g) : ∀ (k i : Nat) (K : List ByteArray), r.Body.length + 1 ≤ i + k → i ≤ r.Body.length → K[v]? = some n → K.length + r.Body.length ≤ 1000000 + i →
    M_r16_Depends_L1 rules g (v : Int) (w : Int) k (i : Int) K = some (if r.Head.Name = n then (r.Body.drop i).foldl stepN K else K) := by
  have hbm := hb r (List.mem_of_getElem? hrw)
  intro k
  induction k with
  | zero => intro i K h1 h2; omega
  | succ k ih =>
    intro i K h1 h2 h3 h4
    rw [M_r16_Depends_L1, ix_at hrw]
    have hvl : v < K.length := (List.getElem?_eq_some_iff.1 h3).1
    by_cases h : i < r.Body.length
    · have hy := List.getElem?_eq_getElem h
      rw [show decide ((i : Int) < ((r.Body.map cGAtom).length : Int)) = true by simp; omega]
      have e1 : (sel true (ix rules (w : Int) (fun y1556 => ixn K (((v : Nat) : Int)).toNat (fun y1557 => grd (0 ≤ ((v : Nat) : Int)) (grd (((v : Nat) : Int) < ((K.length : Nat) : Int)) (sel (y1556.Head.Name.toList == y1557.toList) (some (.inl ())) (some (.inr ()))))))) (some (.inr ())) : Option (Unit ⊕ Unit)) = if r.Head.Name = n then some (.inl ()) else some (.inr ()) := by
        show ix rules (w : Int) _ = _
        rw [ix_at hrw, Int.toNat_natCast]
        unfold ixn
        rw [h3]
        simp only []
        rw [grd_mk (by omega) rfl, grd_mk (by omega) rfl, beq_bl, sel_dec]
      rw [e1]
      by_cases e : r.Head.Name = n
      · rw [if_pos e, if_pos e, ob1_some]
        show ix rules (w : Int) _ = _
        rw [ix_at hrw, ix_at hy]
        refine grd_mk (by omega) ?_
        rw [rhas_eq g K _ (by omega) (by omega), ob1_some, sel_not, sel_dec, dropC hy, List.foldl_cons, wrap_eq (by omega) (by omega)]
        have hs : stepN K r.Body[i] = if r.Body[i].Name ∈ K then K else K ++ [r.Body[i].Name] := rfl
        by_cases e2 : r.Body[i].Name ∈ K
        · rw [if_pos e2] at hs ⊢
          rw [hs]
          have := ih (i + 1) K (by omega) (by omega) h3 (by omega)
          rw [if_pos e] at this
          exact this
        · rw [if_neg e2] at hs ⊢
          rw [ix_at hrw, ix_at hy, hs]
          refine grd_mk (by omega) ?_
          have := ih (i + 1) (K ++ [r.Body[i].Name]) (by omega) (by omega) (by rw [List.getElem?_append_left hvl]; exact h3) (by simp; omega)
          rw [if_pos e] at this
          exact this
      · rw [if_neg e, if_neg e]; rfl
    · rw [show decide ((i : Int) < ((r.Body.map cGAtom).length : Int)) = false by simp; omega]
      rw [List.drop_of_length_le (show r.Body.length ≤ i by omega)]
      show some K = _
      split <;> rfl
theorem rd2 (g v : Nat) (n : ByteArray) (hg : 2000000 < g) : ∀ (k i : Nat) (K : List ByteArray), rules.length + 1 ≤ i + k → i ≤ rules.length → K[v]? = some n → K.length + rules.length * 1000 ≤ 900000 + i * 1000 →
    M_r16_Depends_L2 rules g (v : Int) k (i : Int) K = some (.inl ((rules.drop i).foldl (extN n) K)) := by
  intro k
  induction k with
  | zero => intro i K h1 h2; omega
  | succ k ih =>
    intro i K h1 h2 h3 h4
    rw [M_r16_Depends_L2]
    by_cases h : i < rules.length
    · have hy := List.getElem?_eq_getElem h
      have hbm := hb _ (List.getElem_mem h)
      rw [show decide ((i : Int) < ((rules.map cGRule).length : Int)) = true by simp; omega]
      have h5 := rd1 rules hr hb U hU hUl g v i rules[i] hy n hg g 0 K (by omega) (Nat.zero_le _) h3 (by omega)
      rw [List.drop_zero, show ((0 : Nat) : Int) = 0 from rfl] at h5
      show ob1 (M_r16_Depends_L1 rules g (v : Int) (i : Int) g 0 K) _ = _
      rw [h5, ob1_some, dropC hy, List.foldl_cons, wrap_eq (by omega) (by omega)]
      have hl := extN_len n K rules[i]
      have hpre : ∀ (l : List GAtom) (K : List ByteArray), K <+: l.foldl stepN K := by
        intro l
        induction l with
        | nil => intro K; exact List.prefix_refl _
        | cons x q ihp =>
          intro K
          rw [List.foldl_cons]
          refine List.IsPrefix.trans ?_ (ihp _)
          unfold stepN
          split
          · exact List.prefix_refl _
          · exact List.prefix_append _ _
      have h6 : (extN n K rules[i])[v]? = some n := by
        unfold extN
        split
        · obtain ⟨t, ht⟩ := hpre rules[i].Body K
          rw [← ht, List.getElem?_append_left (List.getElem?_eq_some_iff.1 h3).1]
          exact h3
        · exact h3
      exact ih (i + 1) (extN n K rules[i]) (by omega) (by omega) h6 (by omega)
    · rw [show decide ((i : Int) < ((rules.map cGRule).length : Int)) = false by simp; omega]
      rw [List.drop_of_length_le (show rules.length ≤ i by omega)]
      rfl
theorem rd3 (g : Nat) (hg : 2000000 < g) : ∀ (k : Nat) (K : List ByteArray) (d : Nat), NmI U K → d ≤ K.length → M_r16_Depends_L3 rules b g k (d : Int) K = bfs rules b k K d := by
  intro k
  induction k with
  | zero => intro K d _ _; rfl
  | succ k ih =>
    intro K d hK hd
    have hKl := nodup_sub hK.1 hK.2
    rw [M_r16_Depends_L3, bfs]
    by_cases h : d < K.length
    · have hy := List.getElem?_eq_getElem h
      rw [decide_eq_true (show (d : Int) < ((K.length : Nat) : Int) by omega), hy]
      have e1 : (ixn K (((d : Nat) : Int)).toNat (fun y1305 => grd (0 ≤ ((d : Nat) : Int)) (grd (((d : Nat) : Int) < ((K.length : Nat) : Int)) (sel (y1305.toList == b.toList) (some (.inr true)) (M_r16_Depends_L2 rules g (d : Int) g 0 K)))) : Option ((List ByteArray) ⊕ Bool)) = if K[d] = b then some (.inr true) else some (.inl (rules.foldl (extN K[d]) K)) := by
        rw [Int.toNat_natCast]
        unfold ixn
        rw [hy]
        simp only []
        rw [grd_mk (by omega) rfl, grd_mk (by omega) rfl, beq_bl, sel_dec]
        have h2 := rd2 rules hr hb U hU hUl g d K[d] hg g 0 K (by omega) (Nat.zero_le _) hy (by omega)
        rw [List.drop_zero, show ((0 : Nat) : Int) = 0 from rfl] at h2
        rw [h2]
      show ob1 _ _ = _
      rw [e1]
      simp only []
      by_cases e : K[d] = b
      · rw [if_pos e, if_pos e]; rfl
      · rw [if_neg e, if_neg e, ob1_some]
        show M_r16_Depends_L3 rules b g k _ _ = _
        rw [wrap_eq (by omega) (by omega)]
        have hl := extN_fold K[d] rules K hb
        exact ih (rules.foldl (extN K[d]) K) (d + 1) (nm_ext K[d] rules hK hU) (by omega)
    · rw [decide_eq_false (show ¬ (d : Int) < ((K.length : Nat) : Int) by omega), List.getElem?_eq_none (by omega)]
      rfl
end
/-- what depends on what -/
def Edge (rules : List GRule) (n m : ByteArray) : Prop := ∃ r ∈ rules, r.Head.Name = n ∧ ∃ x ∈ r.Body, x.Name = m
inductive Rch16 (rules : List GRule) : ByteArray → ByteArray → Prop
  | refl {a : ByteArray} : Rch16 rules a a
  | step {a n b : ByteArray} : Edge rules a n → Rch16 rules n b → Rch16 rules a b
theorem rch_snoc {rules : List GRule} {a n m : ByteArray} (h : Rch16 rules a n) (e : Edge rules n m) : Rch16 rules a m := by
  induction h with
  | refl => exact .step e .refl
  | step e' _ ih => exact .step e' (ih e)
theorem stepN_mem {l : List GAtom} : ∀ {K : List ByteArray} {z : ByteArray}, z ∈ l.foldl stepN K ↔ z ∈ K ∨ ∃ x ∈ l, x.Name = z := by
  induction l with
  | nil => intro K z; simp
  | cons x r ih =>
    intro K z
    rw [List.foldl_cons, ih]
    have : z ∈ stepN K x ↔ z ∈ K ∨ x.Name = z := by
      unfold stepN
      split
      · rename_i h
        exact ⟨.inl, fun q => q.elim id (fun q => q ▸ h)⟩
      · rw [List.mem_append, List.mem_singleton]
        exact or_congr_right eq_comm
    rw [this]
    simp only [List.mem_cons, exists_eq_or_imp, or_assoc]
theorem extN_mem {n : ByteArray} {l : List GRule} : ∀ {K : List ByteArray} {z : ByteArray}, z ∈ l.foldl (extN n) K ↔ z ∈ K ∨ ∃ r ∈ l, r.Head.Name = n ∧ ∃ x ∈ r.Body, x.Name = z := by
  induction l with
  | nil => intro K z; simp
  | cons r q ih =>
    intro K z
    rw [List.foldl_cons, ih]
    have : z ∈ extN n K r ↔ z ∈ K ∨ (r.Head.Name = n ∧ ∃ x ∈ r.Body, x.Name = z) := by
      unfold extN
      split
      · rename_i h
        rw [stepN_mem]
        exact or_congr_right ⟨fun q => ⟨h, q⟩, fun q => q.2⟩
      · rename_i h
        exact ⟨.inl, fun q => q.elim id (fun q => absurd q.1 h)⟩
    rw [this]
    simp only [List.mem_cons, exists_eq_or_imp, or_assoc]
theorem ext_pre {n : ByteArray} : ∀ (l : List GRule) (K : List ByteArray), K <+: l.foldl (extN n) K := by
  have hpre : ∀ (l : List GAtom) (K : List ByteArray), K <+: l.foldl stepN K := by
    intro l
    induction l with
    | nil => intro K; exact List.prefix_refl _
    | cons x q ihp =>
      intro K
      rw [List.foldl_cons]
      refine List.IsPrefix.trans ?_ (ihp _)
      unfold stepN
      split
      · exact List.prefix_refl _
      · exact List.prefix_append _ _
  intro l
  induction l with
  | nil => intro K; exact List.prefix_refl _
  | cons r q ih =>
    intro K
    rw [List.foldl_cons]
    refine List.IsPrefix.trans ?_ (ih _)
    unfold extN
    split
    · exact hpre _ _
    · exact List.prefix_refl _
theorem bfs_spec (rules : List GRule) (a b : ByteArray) (U : List ByteArray) (hU : ∀ r ∈ rules, ∀ x ∈ r.Body, x.Name ∈ U) (hUl : U.length ≤ 10000) : ∀ (k : Nat) (K : List ByteArray) (d : Nat), NmI U K → d ≤ K.length → 10001 ≤ k + d → a ∈ K → (∀ z ∈ K, Rch16 rules a z) → (∀ i, i < d → ∀ n, K[i]? = some n → n ≠ b ∧ ∀ m, Edge rules n m → m ∈ K) →
    ∃ t, bfs rules b k K d = some t ∧ (t = true ↔ Rch16 rules a b) := by
  intro k
  induction k with
  | zero => intro K d h1 h2 h3; have := nodup_sub h1.1 h1.2; omega
  | succ k ih =>
    intro K d h1 h2 h3 h4 h5 h6
    rw [bfs]
    by_cases h : d < K.length
    · have hy := List.getElem?_eq_getElem h
      rw [hy]
      simp only []
      by_cases e : K[d] = b
      · rw [if_pos e]
        exact ⟨true, rfl, fun _ => by rw [← e]; exact h5 _ (List.getElem_mem h), fun _ => rfl⟩
      · rw [if_neg e]
        have hp := ext_pre (n := K[d]) rules K
        refine ih _ (d + 1) (nm_ext K[d] rules h1 hU) (by have := hp.length_le; omega) (by omega) (extN_mem.2 (.inl h4)) (fun z hz => ?_) (fun i hi n hn => ?_)
        · rcases extN_mem.1 hz with q | ⟨r, hr, q1, q2⟩
          · exact h5 z q
          · exact rch_snoc (h5 _ (List.getElem_mem h)) ⟨r, hr, q1, q2⟩
        · obtain ⟨t, ht⟩ := hp
          have hn' : K[i]? = some n := by
            rw [← ht, List.getElem?_append_left (by omega)] at hn
            exact hn
          by_cases e2 : i < d
          · obtain ⟨q1, q2⟩ := h6 i e2 n hn'
            exact ⟨q1, fun m hm => extN_mem.2 (.inl (q2 m hm))⟩
          · obtain rfl : i = d := by omega
            rw [hy] at hn'
            injection hn' with hn'
            subst hn'
            refine ⟨e, fun m ⟨r, hr, q1, q2⟩ => extN_mem.2 (.inr ⟨r, hr, q1, q2⟩)⟩
    · rw [List.getElem?_eq_none (by omega)]
      refine ⟨false, rfl, fun q => (by cases q), fun q => ?_⟩
      exfalso
      have hcl : ∀ z ∈ K, z ≠ b ∧ ∀ m, Edge rules z m → m ∈ K := fun z hz => by
        obtain ⟨i, hi⟩ := List.getElem?_of_mem hz
        exact h6 i (by have := (List.getElem?_eq_some_iff.1 hi).1; omega) z hi
      have : ∀ x y, Rch16 rules x y → x ∈ K → y ∈ K := fun x y hxy => by
        induction hxy with
        | refl => exact id
        | step e _ ih2 => exact fun hx => ih2 ((hcl _ hx).2 _ e)
      exact (hcl b (this a b q h4)).1 rfl
theorem allN_len {p : GProgram} (hp : Small p) : (allN p.Rules).length ≤ 160 := by
  have h1 : (allN p.Rules).length ≤ p.Rules.length * 20 := flat_le _ 20 _ (fun r hr => by rw [List.length_map]; exact (hp.rule r hr).b20)
  have := hp.rules
  omega
theorem depends_eq {p : GProgram} (hp : Small p) (g : Nat) (hg : 2000000 < g) (a b : ByteArray) : ∃ t, M_datalog_Depends g p.Rules a b = some t ∧ M_r16_Depends g p.Rules a b = some t ∧ (t = true ↔ Rch16 p.Rules a b) := by
  have hl := allN_len hp
  have hr := hp.rules
  have hb : ∀ r ∈ p.Rules, r.Body.length ≤ 1000 := fun r hr => by have := (hp.rule r hr).b20; omega
  have hU : ∀ r ∈ p.Rules, ∀ x ∈ r.Body, x.Name ∈ a :: allN p.Rules := fun r hr x hx => List.mem_cons_of_mem _ (allN_mem r hr x hx)
  have hUl : (a :: allN p.Rules).length ≤ 10000 := by rw [List.length_cons]; omega
  have h0 : NmI (a :: allN p.Rules) [a] := ⟨by simp, fun x hx => by rw [List.mem_singleton.1 hx]; exact List.mem_cons_self ..⟩
  obtain ⟨t, h1, h2⟩ := bfs_spec p.Rules a b (a :: allN p.Rules) hU hUl g [a] 0 h0 (Nat.zero_le _) (by omega) (List.mem_singleton.2 rfl) (fun z hz => by rw [List.mem_singleton.1 hz]; exact .refl) (fun i hi => by omega)
  refine ⟨t, ?_, ?_, h2⟩
  · rw [← h1]
    exact dL3 p.Rules b (by omega) hb (a :: allN p.Rules) hU hUl g [a] 0 h0 (Nat.zero_le _)
  · rw [← h1]
    exact rd3 p.Rules b (by omega) hb (a :: allN p.Rules) hU hUl g hg g [a] 0 h0 (Nat.zero_le _)
/-- a fact on which nothing depends that an atom needs -/
theorem der_without {F : List GAtom} {f : GAtom} {R : List GRule} {z : GAtom} (h : Der (F ++ [f]) R z) : ¬ Rch16 R z.Name f.Name → Der F R z := by
  induction h with
  | fact h =>
    intro hn
    rcases List.mem_append.1 h with q | q
    · exact .fact q
    · rw [List.mem_singleton.1 q] at hn
      exact absurd .refl hn
  | @rule r σ hr _ hu ih =>
    intro hn
    refine .rule hr (fun a ha => ih a ha (fun q => hn ?_)) hu
    exact .step ⟨r, hr, rfl, a, ha, rfl⟩ q
theorem flt_loop2 {p : GProgram} (hp : Small p) (f : GAtom) (g : Nat) (hg : 2000000 < g) (P : GAtom → Bool) (hP : ∀ z, (P z = true ↔ ¬ Rch16 p.Rules z.Name f.Name)) (A : List GAtom) (hA : A.length ≤ 1000) : ∀ (k i : Nat) (out : List GAtom), A.length + 1 ≤ i + k → i ≤ A.length → out.length ≤ i →
    M_l16_DatalogDepends_L2 p f g A k (i : Int) out = some (out ++ (A.drop i).filter P) := by
  intro k
  induction k with
  | zero => intro i out h1 h2; omega
  | succ k ih =>
    intro i out h1 h2 h3
    rw [M_l16_DatalogDepends_L2]
    by_cases h : i < A.length
    · have hy := List.getElem?_eq_getElem h
      rw [show decide ((i : Int) < ((A.map cGAtom).length : Int)) = true by simp; omega]
      obtain ⟨t, q1, _, q2⟩ := depends_eq hp g hg A[i].Name f.Name
      have ht : P A[i] = !t := by
        cases t with
        | true =>
          cases hpp : P A[i] with
          | false => rfl
          | true => exact absurd (q2.1 rfl) ((hP _).1 hpp)
        | false => exact (hP _).2 (fun q => by cases q2.2 q)
      show ix A (i : Int) _ = _
      rw [ix_at hy, q1, ob1_some, dropC hy, List.filter_cons, ht, wrap_eq (by omega) (by omega)]
      cases t with
      | true => exact ih (i + 1) out (by omega) (by omega) (by omega)
      | false =>
        show ix A (i : Int) _ = _
        rw [ix_at hy]
        refine grd_mk (by omega) ?_
        have := ih (i + 1) (out ++ [A[i]]) (by omega) (by omega) (by simp; omega)
        rw [List.append_assoc] at this
        exact this
    · rw [show decide ((i : Int) < ((A.map cGAtom).length : Int)) = false by simp; omega]
      rw [List.drop_of_length_le (show A.length ≤ i by omega)]
      simp [sel]
theorem flt_loop3 {p : GProgram} (hp : Small p) (f : GAtom) (g : Nat) (hg : 2000000 < g) (P : GAtom → Bool) (hP : ∀ z, (P z = true ↔ ¬ Rch16 p.Rules z.Name f.Name)) (X A : List GAtom) (hA : A.length ≤ 1000) (hX : X.length ≤ 1000) (hX8 : ∀ a ∈ X, a.Args.length ≤ 8) : ∀ (k i : Nat) (out : List GAtom), A.length + 1 ≤ i + k → i ≤ A.length → out.length ≤ i → out ++ (A.drop i).filter P = X →
    M_l16_DatalogDepends_L3 p f g X A k (i : Int) out = some true := by
  intro k
  induction k with
  | zero => intro i out h1 h2; omega
  | succ k ih =>
    intro i out h1 h2 h3 h4
    rw [M_l16_DatalogDepends_L3]
    by_cases h : i < A.length
    · have hy := List.getElem?_eq_getElem h
      rw [show decide ((i : Int) < ((A.map cGAtom).length : Int)) = true by simp; omega]
      obtain ⟨t, q1, _, q2⟩ := depends_eq hp g hg A[i].Name f.Name
      have ht : P A[i] = !t := by
        cases t with
        | true =>
          cases hpp : P A[i] with
          | false => rfl
          | true => exact absurd (q2.1 rfl) ((hP _).1 hpp)
        | false => exact (hP _).2 (fun q => by cases q2.2 q)
      rw [dropC hy, List.filter_cons, ht] at h4
      show ix A (i : Int) _ = _
      rw [ix_at hy, q1, ob1_some, wrap_eq (by omega) (by omega)]
      cases t with
      | true => exact ih (i + 1) out (by omega) (by omega) (by omega) h4
      | false =>
        show ix A (i : Int) _ = _
        rw [ix_at hy]
        refine grd_mk (by omega) ?_
        exact ih (i + 1) (out ++ [A[i]]) (by omega) (by omega) (by simp; omega) (by rw [List.append_assoc]; exact h4)
    · rw [show decide ((i : Int) < ((A.map cGAtom).length : Int)) = false by simp; omega]
      rw [List.drop_of_length_le (show A.length ≤ i by omega), List.filter_nil, List.append_nil] at h4
      subst h4
      show grd _ _ = _
      refine grd_mk (by omega) (grd_mk (by omega) ?_)
      rw [sameAtoms_eq g out (by omega) (few8 (by omega) hX8) (by omega), ob1_some]
theorem dep_loop1 {p : GProgram} (hp : Small p) (ns : ByteArray × ByteArray) (g : Nat) (hg : 2000000 < g) : ∀ (k i : Nat), 3 ≤ i + k → i ≤ 2 → M_l16_DatalogDepends_L1 p ns g k (i : Int) = some (.inl ()) := by
  intro k
  induction k with
  | zero => intro i h1 h2; omega
  | succ k ih =>
    intro i h1 h2
    rw [M_l16_DatalogDepends_L1]
    by_cases h : i < 2
    · rw [decide_eq_true (show (i : Int) < 2 by omega)]
      have hw : IntKind.i64.wrap (1 - (i : Int)) = ((1 - i : Nat) : Int) := by rw [wrap_eq (by omega) (by omega)]; omega
      rw [hw]
      have hx : ∀ j, j < 2 → ∃ y, [ns.1, ns.2][j]? = some y := fun j hj => ⟨_, List.getElem?_eq_getElem (show j < [ns.1, ns.2].length from hj)⟩
      obtain ⟨y, hy⟩ := hx i h
      obtain ⟨z, hz⟩ := hx (1 - i) (by omega)
      have ey : ∀ (f : ByteArray → Option (Unit ⊕ Bool)), ixn [ns.1, ns.2] (0 + ((i : Int)).toNat * 1) f = f y := fun f => by
        rw [show 0 + ((i : Int)).toNat * 1 = i by simp]
        unfold ixn
        rw [hy]
      have ez : ∀ (f : ByteArray → Option (Unit ⊕ Bool)), ixn [ns.1, ns.2] (0 + (((1 - i : Nat) : Int)).toNat * 1) f = f z := fun f => by
        rw [show 0 + (((1 - i : Nat) : Int)).toNat * 1 = 1 - i by simp]
        unfold ixn
        rw [hz]
      obtain ⟨t, q1, q2, _⟩ := depends_eq hp g hg y z
      obtain ⟨t2, q3, _, q4⟩ := depends_eq hp g hg y y
      have ht2 : t2 = true := q4.2 .refl
      subst ht2
      show grd _ _ = _
      refine grd_mk (by omega) (grd_mk (by omega) ?_)
      rw [ey]
      refine grd_mk (by omega) (grd_mk (by omega) ?_)
      rw [ez, q1, ob1_some, ey, ez, q2, ob1_some, show (!(t == t)) = false by simp]
      show ixn [ns.1, ns.2] (0 + ((i : Int)).toNat * 1) _ = _
      rw [ey, ey, q3, ob1_some]
      show M_l16_DatalogDepends_L1 p ns g k _ = _
      rw [wrap_eq (by omega) (by omega)]
      exact ih (i + 1) (by omega) (by omega)
    · rw [decide_eq_false (show ¬ (i : Int) < 2 by omega)]
      rfl
theorem depends_true (p : GProgram) (f : GAtom) (ns : ByteArray × ByteArray) (h : PrgOk ⟨p.Facts ++ [f], p.Rules⟩) (hfl : p.Facts.length ≤ 1048576) : M_l16_DatalogDepends GG p f ns = some true := by
  obtain ⟨b, h1, h2⟩ := large_ok h
  obtain ⟨g, hgg⟩ : ∃ g, g = GG := ⟨GG, rfl⟩
  have hg1 : 1000000000000 < g := by rw [hgg]; decide
  rw [← hgg] at h1 ⊢
  clear hgg
  unfold M_l16_DatalogDepends
  refine grd_mk (by omega) (grd_mk (by omega) ?_)
  rw [show ∀ x : Option (Unit ⊕ Bool), grd (p.Facts.length + 1 ≤ 140737488355328) x = x from fun x => grd_mk (by omega) rfl]
  rw [h1, ob1_some, awake16 g (by omega)]
  cases b with
  | true => rfl
  | false =>
    have hq := h2 rfl
    have hp : Good p := ⟨small_part (F := [f]) (R := []) hq.sm rfl (by simp), fun a ha => hq.hx a (by
      rcases List.mem_append.1 ha with e | e
      · exact List.mem_append_left _ (List.mem_append_left _ e)
      · exact List.mem_append_right _ e)⟩
    show ob1 (M_l16_DatalogDepends_L1 p ns g g 0) _ = _
    have hl1 := dep_loop1 hp.sm ns g (by omega) g 0 (by omega) (Nat.zero_le _)
    rw [show ((0 : Nat) : Int) = 0 from rfl] at hl1
    rw [hl1]
    show ob2 (M_datalog_Solve g p.Facts p.Rules) _ = _
    rw [solve_good hp g (by omega), ob2_some]
    refine grd_mk (by omega) ?_
    have hsq := solve_good hq g (by omega)
    simp only [] at hsq
    rw [hsq, ob2_some]
    cases hw : wrongE p.Facts p.Rules with
    | no e => rw [solve_wrong hp g hw]; rfl
    | nil =>
      obtain ⟨A, a1, a2, a3, _, a5⟩ := solve_der hp g (by omega) hw
      rw [a1]
      cases hw2 : wrongE (p.Facts ++ [f]) p.Rules with
      | no e2 =>
        have := solve_wrong hq g hw2
        simp only [] at this
        rw [this]; rfl
      | nil =>
        obtain ⟨B, b1, b2, b3, _, b5⟩ := solve_der hq g (by omega) hw2
        simp only [] at b1 b5
        rw [b1]
        obtain ⟨P, hP⟩ : ∃ P : GAtom → Bool, ∀ z, (P z = true ↔ ¬ Rch16 p.Rules z.Name f.Name) := by
          classical
          exact ⟨fun z => decide (¬ Rch16 p.Rules z.Name f.Name), fun z => decide_eq_true_iff⟩
        have hAB : A.filter P = B.filter P := by
          refine strA_unique (a2.str.sublist List.filter_sublist) (b2.str.sublist List.filter_sublist) (fun z => ?_)
          rw [List.mem_filter, List.mem_filter, a5, b5]
          refine and_congr_left fun hz => ⟨fun h => der_mono (fun x hx => List.mem_append_left _ hx) (fun x hx => hx) h, fun h => der_without h ((hP z).1 hz)⟩
        have e2 := flt_loop2 hp.sm f g (by omega) P hP A (by omega) g 0 [] (by omega) (Nat.zero_le _) (Nat.le_refl _)
        rw [List.drop_zero, List.nil_append, show ((0 : Nat) : Int) = 0 from rfl] at e2
        show ob1 (M_l16_DatalogDepends_L2 p f g A g 0 []) _ = _
        rw [e2, ob1_some]
        have hfl2 := List.length_filter_le P A
        have e3 := flt_loop3 hp.sm f g (by omega) P hP (A.filter P) B (by omega) (by omega) (fun a ha => (a2.sml a (List.mem_filter.1 ha).1).1) g 0 [] (by omega) (Nat.zero_le _) (Nat.le_refl _) (by rw [List.drop_zero, List.nil_append, hAB])
        rw [show ((0 : Nat) : Int) = 0 from rfl] at e3
        exact e3
end Go.Proofs.YtflgpccacloadaaDoor.Am
/- What the listed package-level variables hold, as cells, for the witness. -/
namespace Go.Proofs.YtflgpccacloadaaDoor
open Go.ChangeShapes Go.WideShapes Go.ChangeAt Go.RowKit
theorem own : ownKnob Tryd.prog.godebug = none := by kernel_rfl
theorem laidOut : laidOutB Tryd.prog = true := by kernel_rfl
def tab32 : Array Value := #[.int .u8 0, .int .u8 1, .int .u8 28, .int .u8 2, .int .u8 29, .int .u8 14, .int .u8 24, .int .u8 3, .int .u8 30, .int .u8 22, .int .u8 20, .int .u8 15, .int .u8 25, .int .u8 17, .int .u8 4, .int .u8 8, .int .u8 31, .int .u8 27, .int .u8 13, .int .u8 23, .int .u8 21, .int .u8 19, .int .u8 16, .int .u8 7, .int .u8 26, .int .u8 12, .int .u8 18, .int .u8 6, .int .u8 11, .int .u8 5, .int .u8 10, .int .u8 9]
def tab64 : Array Value := #[.int .u8 0, .int .u8 1, .int .u8 56, .int .u8 2, .int .u8 57, .int .u8 49, .int .u8 28, .int .u8 3, .int .u8 61, .int .u8 58, .int .u8 42, .int .u8 50, .int .u8 38, .int .u8 29, .int .u8 17, .int .u8 4, .int .u8 62, .int .u8 47, .int .u8 59, .int .u8 36, .int .u8 45, .int .u8 43, .int .u8 51, .int .u8 22, .int .u8 53, .int .u8 39, .int .u8 33, .int .u8 30, .int .u8 24, .int .u8 18, .int .u8 12, .int .u8 5, .int .u8 63, .int .u8 55, .int .u8 48, .int .u8 27, .int .u8 60, .int .u8 41, .int .u8 37, .int .u8 16, .int .u8 46, .int .u8 35, .int .u8 44, .int .u8 21, .int .u8 52, .int .u8 32, .int .u8 23, .int .u8 11, .int .u8 54, .int .u8 26, .int .u8 40, .int .u8 15, .int .u8 34, .int .u8 20, .int .u8 31, .int .u8 10, .int .u8 25, .int .u8 14, .int .u8 19, .int .u8 9, .int .u8 13, .int .u8 8, .int .u8 7, .int .u8 6]
def tabPow : Array Value := #[.int .u64 1, .int .u64 10, .int .u64 100, .int .u64 1000, .int .u64 10000, .int .u64 100000, .int .u64 1000000, .int .u64 10000000, .int .u64 100000000, .int .u64 1000000000, .int .u64 10000000000, .int .u64 100000000000, .int .u64 1000000000000, .int .u64 10000000000000, .int .u64 100000000000000, .int .u64 1000000000000000, .int .u64 10000000000000000, .int .u64 100000000000000000, .int .u64 1000000000000000000, .int .u64 10000000000000000000]

def putCells (cs : Array Value) : Obj → Obj
  | .cells _ t frozen => .cells cs t frozen
  | o => o
/-- A world for the witnesses: the settled one, the tables holding what their initialisers lay. -/
noncomputable def laidWorld (os : Os) : World :=
  { World.holding Tryd.prog os ⟨#[], #[], []⟩ with heap := (((World.holding Tryd.prog os ⟨#[], #[], []⟩).heap.modify 0 (putCells tabPow)).modify 1 (putCells tab32)).modify 2 (putCells tab64) }
end Go.Proofs.YtflgpccacloadaaDoor
/- stratagemlaw16.DatalogDepends returns true for every input of bulk at most 1048576. No condition beyond the card's own. -/
namespace Go.Proofs.YtflgpccacloadaaDoor.rowDepends
open Go.ChangeShapes Go.WideShapes Go.ChangeAt Go.RowKit Go.Deep Go.Joins Am
theorem wRs_len : ∀ l : List GRule, l.length ≤ wRs l
  | [] => Nat.zero_le _
  | r :: q => by
    have h1 := wRs_len q
    have h2 : 1 ≤ wR r := by unfold wR wA; omega
    unfold wRs at h1 ⊢
    simp only [List.map_cons, List.sum_cons, List.length_cons]
    omega
theorem prgD {p : GProgram} {f : GAtom} (h1 : zAs p.Facts) (h2 : zRs p.Rules) (h3 : zA f) (hl : p.Facts.length ≤ 1048576) : PrgOk ⟨p.Facts ++ [f], p.Rules⟩ :=
  prgOk_of ⟨by simp; omega, fun a ha => by
    rcases List.mem_append.1 ha with e | e
    · exact h1.2 a e
    · rw [List.mem_singleton.1 e]; exact h3⟩ h2
theorem okWide_arr {P : Program} {w : World} {r : Reach} {b0 : Nat} {t e : TypeId} {n : Nat} {v : Value} (ht : P.underlying t = some (.array n e)) (h : Value.okWide P w r b0 t v) : ∃ cs, v = .agg cs ∧ cs.size = P.cellsOf t := by
  simp only [Value.okWide, ht] at h
  obtain ⟨cs, h1, h2, _⟩ := h
  exact ⟨cs, h1, h2⟩
/-- an array argument -/
theorem arg_arrayB {H : Type} {enc : TypeId × Value → H} {w : World} {base : Nat} {spare : Nat → Bool} {held : Bool} {P : Program} {t e : TypeId} {n : Nat} {α : Type} {en : α → List AV} {R : α → Prop} {wt : α → Nat} {r : Reach} {b0 : Nat} {v : Value} {d : DataW H} {p : List MemPlace} (ht : P.underlying t = some (.array n e)) (hv : Value.okWide P w r b0 t v) (ho : OpensB enc P w base spare held t en R wt) (h : DataW.Trod enc P w base spare held t v d p) (hs : Sized P t d) :
    ∃ a, R a ∧ wt a ≤ Rows.uptoBulk d ∧ RV w nov mZ (.agg (en a)) v := by
  obtain ⟨cs, rfl, hsz⟩ := okWide_arr ht hv
  obtain ⟨fuel, hf⟩ := h
  obtain ⟨a, ha, hw, hc⟩ := ho fuel _ _ hf hs
  exact ⟨a, ha, hw, agg_rv hc⟩

theorem table {W : World} (h : laidMetH Tryd.prog Rows.datalogDependsUptoRow.laid W) : TabOk W := by
  obtain ⟨ps, ⟨_, _, _, _, _, _, _, _, _, _, ⟨_, _, _, _, _, _, _, _, _, _, hr, _⟩, _⟩, _⟩ := h
  obtain ⟨g', t', cs, fuel, p, q, hg', ht', hvar, hd, _, _⟩ := hr
  obtain rfl := Option.some.inj (gPow.symm.trans hg')
  obtain rfl := Option.some.inj ((show (Tryd.prog.globals[0]?).map (·.type) = some 152 by kernel_rfl).symm.trans ht')
  unfold TabOk Lib.TabIs
  rw [hvar, ← Lib.cells_of_tab (zs := Lib.pow10Tab) Tryd.underlying152 Tryd.underlying134 (by kernel_rfl) (by kernel_rfl) hd]
set_option maxRecDepth 100000 in
theorem contract (H : Type) (enc : TypeId × Value → H) (W : World) (base : Nat) (args : Array Value) (ds gs : List (DataW H)) (before : List MemPlace)
    (hval : ∀ (j : Nat) t v, Tryd.f10.params[j]? = some t → args[j]? = some v → Value.okWide Tryd.prog W .any base t v)
    (hW : DataW.Whole enc Tryd.prog Tryd.f10.params.toList Rows.datalogDependsSpec.vars false W args.toList ds gs before) (hL : laidMetH Tryd.prog Rows.datalogDependsUptoRow.laid W)
    (hsz : (DataW.weightsEach Tryd.prog (Tryd.f10.params.toList ++ (OpenSpec.ofChange Rows.datalogDependsSpec).bare.plain.varTypes Tryd.prog) (ds ++ gs)).all (· ≤ reachBytes) = true) (hsh : W.ShapedOpen Tryd.prog) (hk : Rows.uptoSmall H (ds ++ gs) = true) :
    Calls Tryd.prog 10 args W fun e W' => ∃ v, e = .returned v ∧ Rows.datalogDependsSpec.post enc Tryd.prog Tryd.f10 false true false false W args v W' := by
  have hW' := hW
  obtain ⟨p, q, hA0, hV, rfl, hfz, hnd⟩ := hW
  have hA : DataW.TrodAll enc Tryd.prog W 0 (fun _ => true) true Tryd.f10.params.toList args.toList ds p := hA0
  rw [Tryd.params10] at hA hval
  obtain ⟨v0, vs0, d0, ds0, p0, q0, hargs, rfl, rfl, h0, r0⟩ := trodAll_cons hA
  obtain ⟨v1, vs1, d1, ds1, p1, q1, rfl, rfl, rfl, h1, r1⟩ := trodAll_cons r0
  obtain ⟨v2, vs2, d2, ds2, p2, q2, rfl, rfl, rfl, h2, r2⟩ := trodAll_cons r1
  obtain ⟨rfl, rfl, rfl⟩ := trodAll_nil r2
  obtain rfl : args = #[v0, v1, v2] := Array.ext' hargs
  obtain ⟨rfl, rfl⟩ := trodVars_none hV
  simp only [List.append_nil] at hW' hA0 hsz hk
  rw [Tryd.params10] at hsz
  obtain ⟨p, hb0, w0, k0⟩ := arg_structB Tryd.underlying38 (hval 0 38 v0 rfl rfl) zProg h0 (sized_arg hsz (j := 0) rfl rfl)
  obtain ⟨f, hb1, w1, k1⟩ := arg_structB Tryd.underlying24 (hval 1 24 v1 rfl rfl) zAtom h1 (sized_arg hsz (j := 1) rfl rfl)
  obtain ⟨ns, _, w2, k2⟩ := arg_arrayB Tryd.underlying58 (hval 2 58 v2 rfl rfl) zPair h2 (sized_arg hsz (j := 2) rfl rfl)
  have hl : p.Facts.length ≤ 1048576 ∧ p.Rules.length ≤ 1048576 := by
    have e1 := of_decide_eq_true hk
    simp only [Rows.uptoBulkAll] at e1
    have e2 := wAs_args p.Facts
    have e3 := wRs_len p.Rules
    omega
  refine (law_of (A_l16_DatalogDepends GG p f ns (depends_true p f ns (prgD hb0.1 hb0.2 hb1 hl.1) hl.1)) ⟨table hL, trivial⟩ rfl (fun j x v hx hv => ?_)).mono fun e W' ⟨he, hb⟩ => ?_
  · match j, hx, hv with
    | 0, hx, hv => simp at hx hv; subst hx hv; exact k0
    | 1, hx, hv => simp at hx hv; subst hx hv; exact k1
    | 2, hx, hv => simp at hx hv; subst hx hv; exact k2
    | j + 3, hx, hv => simp at hx
  · subst he
    exact ⟨_, rfl, law_post laidOut rfl (by kernel_rfl) Tryd.underlying4 (by kernel_rfl) hW' hA0 rfl rfl rfl hb⟩
theorem laid_met (os : Os) : laidMet Tryd.prog Rows.datalogDependsUptoRow.laid ((laidWorld os).forCall (fun _ _ => 0) ⟨#[], #[.agg #[.slice none 0 0, .slice none 0 0], .agg #[.string ⟨#[]⟩, .slice none 0 0], .agg #[.string ⟨#[]⟩, .string ⟨#[]⟩]], []⟩).memory :=
  laidMet_of_run' 8 (by kernel_rfl) (by kernel_rfl)
theorem reads (os : Os) {H : Type} (enc : TypeId × Value → H) : ∃ places, DataW.whole enc Tryd.prog ((laidWorld os).forCall (fun _ _ => 0) ⟨#[], #[.agg #[.slice none 0 0, .slice none 0 0], .agg #[.string ⟨#[]⟩, .slice none 0 0], .agg #[.string ⟨#[]⟩, .string ⟨#[]⟩]], []⟩).memory Tryd.f10.params.toList Rows.datalogDependsSpec.vars false (#[.agg #[.slice none 0 0, .slice none 0 0], .agg #[.string ⟨#[]⟩, .slice none 0 0], .agg #[.string ⟨#[]⟩, .string ⟨#[]⟩]] : Array Value).toList 8 = some ([.agg [.nil, .nil], .agg [.lit (.string []), .nil], .agg [.lit (.string []), .lit (.string [])]], [], places) :=
  ⟨[], by kernel_rfl⟩

set_option maxRecDepth 100000 in
theorem lifted (os : Os) (started : os.Started) (H : Type) (enc : TypeId × Value → H) (F : Stop.Interp) :
    ReturnsInHanded {} Tryd.checked os 10 .any ((Rows.OpenSpec.upto Rows.datalogDependsSpec).preRow enc Tryd.prog Tryd.f10 Rows.datalogDependsUptoRow.domain false Rows.datalogDependsUptoRow.laid) (((Rows.OpenSpec.upto Rows.datalogDependsSpec).at F).post enc Tryd.prog Tryd.f10 false true false false) := by
  obtain ⟨places, hx⟩ := reads os enc
  refine returnsInHanded_of_row (C := Tryd.checked) (s := Rows.OpenSpec.upto Rows.datalogDependsSpec) own started (by kernel_rfl) Tryd.func10
    (witness_row_at (enc := enc) (C := Tryd.checked) false (laidWorld os) #[.agg #[.slice none 0 0, .slice none 0 0], .agg #[.string ⟨#[]⟩, .slice none 0 0], .agg #[.string ⟨#[]⟩, .string ⟨#[]⟩]] rfl (by kernel_rfl) (by kernel_rfl) (by kernel_rfl)
      (OpenSpec.preRow_of_cond 8 hx (by kernel_rfl) (fun k hk => by cases hk; kernel_rfl) (by kernel_rfl) (laid_met os))) ?_
  intro W base args ds gs before hval hW _ hcond hsz hL hsh _
  exact contract H enc W base args ds gs before hval hW hL hsz hsh (hcond _ rfl)

theorem said : Rows.DatalogDependsUptoSaid :=
  OpenClaim.holds_of_cond 10 Tryd.f10 rfl rfl rfl rfl rfl rfl rfl ⟨rfl, rfl, rfl, rfl, rfl⟩ rfl rfl rfl rfl rfl (by kernel_rfl) Tryd.func10 (by kernel_rfl)
    (of_decide_eq_true (by kernel_rfl)) (by unfold Func.isWrapper; first | (rw [if_pos (by decide +kernel)]; kernel_rfl) | (rw [if_neg (by decide +kernel)]; exact ⟨rfl, rfl⟩))
    (fun os started H enc _ F => by rw [OpenClaim.pre_eq_preRow]; exact lifted os started H enc F)

theorem plain (f : FuncId) (fn : Func) (hf : Tryd.pinned.checked.prog.funcNamed Rows.datalogDependsUptoRow.func = some f) (hfn : Tryd.pinned.checked.prog.funcs[f]? = some fn) :
    true = Tryd.pinned.checked.prog.looks [] ∧ ∀ (j : Nat) t, fn.params[j]? = some t → Tryd.pinned.checked.prog.wantsStandIn t = false := by
  obtain rfl : f = 10 := Option.some.inj ((show Tryd.prog.funcNamed Rows.datalogDependsUptoRow.func = some 10 by kernel_rfl).symm.trans hf) |>.symm
  obtain rfl : fn = Tryd.f10 := (Option.some.inj (Tryd.func10.symm.trans hfn)).symm
  refine ⟨by kernel_rfl, fun j t ht => ?_⟩
  have hall : Tryd.f10.params.toList.all (fun t => !Tryd.prog.wantsStandIn t) = true := by kernel_rfl
  have := List.all_eq_true.1 hall t (by simpa using Array.mem_of_getElem? ht)
  have h2 : Tryd.prog.wantsStandIn t = false := by simpa using this
  exact h2

/-- THE CARD: stratagemlaw16's statement holds. -/
theorem card : Rows.DatalogDependsUptoCardSaid :=
  Claim7.holds_tied_plain_at .later [] _ _ _ _ said (fun _ h => by cases h) (by kernel_rfl) (fun _ h => by cases h) datalogDependsUpto_row_tie rfl ⟨rfl, rfl⟩ (by kernel_rfl) rfl plain (by kernel_rfl)
end Go.Proofs.YtflgpccacloadaaDoor.rowDepends
