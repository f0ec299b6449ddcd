/- Texts of the proof, part 4 of 5. -/
import Derived.Test.YtflgpccacloadaaDoorB2
import Derived.Test.YtflgpccacloadaaDoorB3
import Derived.Lib.ItoaMem
import Derived.Maps.RangeRun
set_option linter.unusedVariables false
set_option linter.unusedSectionVars false
set_option linter.unusedSimpArgs false
/- Models printed by my decompiler, and the proofs that the code computes them. -/
namespace Go.Proofs.YtflgpccacloadaaDoor.Am
set_option maxHeartbeats 16000000
set_option maxRecDepth 100000
open Go.RowKit
theorem zg_0 {P : Prop} (h : P := by repeat (first | exact True.intro | exact gb_nil rfl rfl | exact gb_take rfl ⟨rfl, rfl, rfl⟩ List.map_take FrI.h | exact gb_take rfl ⟨rfl, rfl, rfl⟩ (takeC (by omega)) FrI.h |  refine gb_some ⟨rfl, rfl, rfl⟩ ?_ | refine And.intro ?_ ?_ | refine gw_ren rfl rfl rfl rfl rfl ?_ | exact gw_oren rfl rfl rfl rfl rfl | exact gw_opren rfl rfl rfl rfl rfl | exact gw_onil rfl rfl | exact gw_mren rfl rfl rfl rfl | refine gw_pren rfl rfl rfl rfl rfl | exact gw_thaw rfl rfl rfl | refine gw_tup ?_ | refine gw_ifc ?_ | exact GWL.nil | exact gwll_nil | exact gw_c | exact GW.sl | exact GW.nil | exact gwll_same rfl FrI.h | refine GWL.cons ?_ ?_ | refine gwll_cons ?_ ?_ | (refine gw_own3 rfl rfl rfl FrI.h ?_ ?_ ?_) | exact GW.mpf rfl rfl rfl FrI.h rfl | refine CloK.bw ?_ | exact GW.fr FrV.h | exact GW.fr (by assumption) | refine gw_agg ?_ | refine gw_clo ?_ | refine gw_ptr rfl rfl rfl ?_ | (refine gw_own rfl rfl rfl ?_ FrI.h ?_ ?_) | assumption | omega | rfl | (rw [List.length_map, ← List.length_append]; assumption) | (refine gwll_same ?_ FrI.h; (simp [cGAtom, cS, cA2_cS, cGRule, cF] <;> fail)) | (rw [List.map_set]; refine gwll_set (by first | rfl | omega | simp) ?_ ?_) | refine gwll_set (by first | rfl | omega | simp) ?_ ?_ | (rw [List.map_replicate]; refine gwll_rep ?_) | refine gwll_rep ?_ | (rw [List.map_append]; refine gwll_append ?_ ?_) | refine gwll_append ?_ ?_ | (simp [cGAtom, cS, cA2_cS, cGRule, cF, take_len_map] <;> fail) | (rw [List.drop_zero, List.take_of_length_le] <;> first | rfl | (simp [cGAtom, cS, cA2_cS, cGRule, cF] <;> fail)) | (simp; omega) | (simp only [List.length_map, List.length_append, List.drop_zero, List.length_cons, List.length_nil, Nat.zero_add, Nat.add_zero] at *; omega))) : P := h
theorem zn_0 {P : Prop} (h : P := by repeat (first | exact True.intro | rfl | exact Nat.le_of_ble_eq_true rfl | exact gb_nil rfl rfl | exact gb_take rfl ⟨rfl, rfl, rfl⟩ List.map_take FrI.h | exact gb_take rfl ⟨rfl, rfl, rfl⟩ (takeC (by omega)) FrI.h |  refine gb_some ⟨rfl, rfl, rfl⟩ ?_ | refine And.intro ?_ ?_ | refine gw_ren rfl rfl rfl rfl rfl ?_ | exact gw_oren rfl rfl rfl rfl rfl | exact gw_opren rfl rfl rfl rfl rfl | exact gw_onil rfl rfl | exact gw_mren rfl rfl rfl rfl | refine gw_pren rfl rfl rfl rfl rfl | exact gw_thaw rfl rfl rfl | refine gw_tup ?_ | refine gw_ifc ?_ | exact GWL.nil | exact gwll_nil | exact gw_c | exact GW.sl | exact GW.nil | exact gwll_same rfl FrI.h | refine GWL.cons ?_ ?_ | refine gwll_cons ?_ ?_ | (refine gw_own3 rfl rfl rfl FrI.h ?_ ?_ ?_) | exact GW.mpf rfl rfl rfl FrI.h rfl | refine CloK.bw ?_ | exact GW.fr FrV.h | exact GW.fr (by assumption) | refine gw_agg ?_ | refine gw_clo ?_ | refine gw_ptr rfl rfl rfl ?_ | (refine gw_own rfl rfl rfl ?_ FrI.h ?_ ?_) | assumption | omega | rfl | (rw [List.length_map, ← List.length_append]; assumption) | (refine gwll_same ?_ FrI.h; (simp [cGAtom, cS, cA2_cS, cGRule, cF] <;> fail)) | (rw [List.map_set]; refine gwll_set (by first | rfl | omega | simp) ?_ ?_) | refine gwll_set (by first | rfl | omega | simp) ?_ ?_ | (rw [List.map_replicate]; refine gwll_rep ?_) | refine gwll_rep ?_ | (rw [List.map_append]; refine gwll_append ?_ ?_) | refine gwll_append ?_ ?_ | (simp [cGAtom, cS, cA2_cS, cGRule, cF, take_len_map] <;> fail) | (rw [List.drop_zero, List.take_of_length_le] <;> first | rfl | (simp [cGAtom, cS, cA2_cS, cGRule, cF] <;> fail)) | (simp; omega) | (simp only [List.length_map, List.length_append, List.drop_zero, List.length_cons, List.length_nil, Nat.zero_add, Nat.add_zero] at *; omega))) : P := h
theorem ci {p K : Prop} (k : K) (h : p := by first | rfl | exact ⟨rfl, rfl⟩ | exact BW.mpf rfl rfl rfl FrI.h rfl | exact cloK3 rfl rfl rfl rfl rfl rfl rfl rfl rfl | exact BW.fr FrV.h | (refine BW.fr ?_; assumption) | (refine ⟨rfl, ?_⟩; (simp [cGAtom, cS, cA2_cS, cGRule, cF, take_len_map]; done)) | (refine RowK.same ?_ FrI.h; first | rfl | (simp [cGAtom, cS, cA2_cS, cGRule, cF, take_len_map]; done)) | (refine row_part1 ?_; (repeat (first | exact BWL.nil | exact bwll_nil | exact bw_c | exact BW.sl | exact BW.nil | exact bwll_same rfl FrI.h | refine BWL.cons ?_ ?_ | refine bwll_cons ?_ ?_ | (refine bw_own3 rfl rfl rfl FrI.h ?_ ?_ ?_) | exact BW.mpf rfl rfl rfl FrI.h rfl | exact cloK3 rfl rfl rfl rfl rfl rfl rfl rfl rfl | exact BW.fr FrV.h | exact BW.fr (by assumption) | refine bw_agg ?_ | refine bw_clo ?_ | refine bw_ptr rfl rfl rfl ?_ | (refine bw_own rfl rfl rfl ?_ FrI.h ?_ ?_) | assumption | omega | rfl | (rw [List.length_map, ← List.length_append]; assumption) | (refine bwll_same ?_ FrI.h; (simp [cGAtom, cS, cA2_cS, cGRule, cF] <;> fail)) | (rw [List.map_set]; refine bwll_set (by first | rfl | omega | simp) ?_ ?_) | refine bwll_set (by first | rfl | omega | simp) ?_ ?_ | (rw [List.map_replicate]; refine bwll_rep ?_) | refine bwll_rep ?_ | (rw [List.map_append]; refine bwll_append ?_ ?_) | refine bwll_append ?_ ?_ | (simp [cGAtom, cS, cA2_cS, cGRule, cF, take_len_map] <;> fail) | (rw [List.drop_zero, List.take_of_length_le] <;> first | rfl | (simp [cGAtom, cS, cA2_cS, cGRule, cF] <;> fail)) | (simp; omega) | (simp only [List.length_map, List.length_append, List.drop_zero, List.length_cons, List.length_nil, Nat.zero_add, Nat.add_zero] at *; omega))); done) | ((repeat (first | exact BWL.nil | exact bwll_nil | exact bw_c | exact BW.sl | exact BW.nil | exact bwll_same rfl FrI.h | refine BWL.cons ?_ ?_ | refine bwll_cons ?_ ?_ | (refine bw_own3 rfl rfl rfl FrI.h ?_ ?_ ?_) | exact BW.mpf rfl rfl rfl FrI.h rfl | exact cloK3 rfl rfl rfl rfl rfl rfl rfl rfl rfl | exact BW.fr FrV.h | exact BW.fr (by assumption) | refine bw_agg ?_ | refine bw_clo ?_ | refine bw_ptr rfl rfl rfl ?_ | (refine bw_own rfl rfl rfl ?_ FrI.h ?_ ?_) | assumption | omega | rfl | (rw [List.length_map, ← List.length_append]; assumption) | (refine bwll_same ?_ FrI.h; (simp [cGAtom, cS, cA2_cS, cGRule, cF] <;> fail)) | (rw [List.map_set]; refine bwll_set (by first | rfl | omega | simp) ?_ ?_) | refine bwll_set (by first | rfl | omega | simp) ?_ ?_ | (rw [List.map_replicate]; refine bwll_rep ?_) | refine bwll_rep ?_ | (rw [List.map_append]; refine bwll_append ?_ ?_) | refine bwll_append ?_ ?_ | (simp [cGAtom, cS, cA2_cS, cGRule, cF, take_len_map] <;> fail) | (rw [List.drop_zero, List.take_of_length_le] <;> first | rfl | (simp [cGAtom, cS, cA2_cS, cGRule, cF] <;> fail)) | (simp; omega) | (simp only [List.length_map, List.length_append, List.drop_zero, List.length_cons, List.length_nil, Nat.zero_add, Nat.add_zero] at *; omega))); done) | (simp [cGAtom, cS, cA2_cS, cGRule, cF, take_len_map]; done)) : p ∧ K := ⟨h, k⟩
theorem ca_0 {P : Prop} (h : P := by repeat (first | exact True.intro | refine ci ?_)) : P := h
theorem pr {p K : Prop} (k : K) (h : p := by first | assumption | exact Int.natCast_nonneg _ | exact Nat.le_refl _ | exact Nat.zero_le _ | omega | (simp; done) | (simp; omega)) : p ∧ K := ⟨h, k⟩
theorem pl {p K : Prop} (k : K) (h : p := by first | rfl | exact List.length_map _ | (simp; done) | (simp; omega)) : p ∧ K := ⟨h, k⟩
theorem pe {p K : Prop} (k : K) (h : p := by first | omega | (simp; omega) | (simp only [List.length_map, List.length_cons, List.length_nil, List.length_append]; omega) | (simp only [List.length_map, List.drop_zero, List.length_cons, List.length_nil, Nat.zero_add, Nat.add_zero] at *; omega)) : p ∧ K := ⟨h, k⟩
theorem dr {b : Bool} {p K : Prop} (k : K) (h : b = true → p := by intro h; first | (cases h; done) | exact ⟨by kernel_rfl, by kernel_rfl⟩) : (b = true → p) ∧ K := ⟨h, k⟩
theorem cl {C : Cx} {n : Nat} {o : Oper} {τ : Nat → AV} {η : Nat → Ent} {f : FuncId} {os : Array Operand} {ats : Array TypeId} {r : AV} {args : List AV} {K : Foot → Prop} (ho : o.op = .call ⟨.value (.func f), os, ats⟩) (hc : ACall C f args r) (k : K ⟨r, [], []⟩)
    (hd : InB n o.dst := by exact Nat.le_of_ble_eq_true rfl) (hargs : os.toList.map (evA τ) = args := by first | rfl | (simp [cGAtom, cS, cA2_cS, cGRule, cF]; done) | (repeat (first | exact rfl | refine cons_eq ?_ ?_ | exact sl_dt rfl))) (hfr : frs args := by repeat (first | exact trivial | exact fr1_eA _ | exact fr0_eA _ | exact fr1_fr (by assumption) | exact FrV.h | exact fr1_fr FrV.h | refine And.intro ?_ ?_)) (hr : fr1 r := by repeat (first | exact trivial | exact fr1_eA _ | exact fr0_eA _ | exact fr1_fr (by assumption) | exact FrV.h | exact fr1_fr FrV.h | refine And.intro ?_ ?_)) : ∃ f : Foot, LF C n o τ η f ∧ K f := ⟨_, lf_call ho hd hargs hc hfr hr, k⟩
theorem clg {C : Cx} {n : Nat} {o : Oper} {τ : Nat → AV} {η : Nat → Ent} {f : FuncId} {os : Array Operand} {ats : Array TypeId} {r : AV} {xs ys : List AV} {bs bs' : List (Nat × Blk)} {ks : List Nat} {K : Foot → Prop} (ρ : List (Nat × Nat)) (fz : List Nat) (go nb : List (Nat × Ent)) (r' : AV) (ho : o.op = .call ⟨.value (.func f), os, ats⟩) (hargs : os.toList.map (evA τ) = xs)
    (hc : ACallG C f ys bs ks r bs') (k : K ⟨r', go ++ nb, []⟩) (hd : InB n o.dst := by exact Nat.le_of_ble_eq_true rfl) (hok : okC ρ fz bs ks bs' (idsE go) = true := by rfl) (hgo : allUs η go := by repeat (first | exact trivial | refine And.intro rfl ?_)) (hgl : ltUs n go := by repeat (first | exact trivial | refine And.intro (Nat.le_of_ble_eq_true rfl) ?_))
    (hw : GWL η (fE bs) (lk ρ) (fun i => inB fz i = true) (fun i => inB (keys bs) i = true) xs ys := by exact zg_0) (hb : GBL η (fE bs) (lk ρ) (fun i => inB fz i = true) (fun i => inB (keys bs) i = true) bs := by exact zg_0)
    (hr : GW (fE bs') (updAll η (go ++ nb)) (lk (backN ρ bs')) (fun _ => False) (fun i => inB (idsE nb) i = true) r r' := by exact zg_0)
    (hnb : nbOk n η (updAll η (go ++ nb)) ρ ks (fE bs') (lk (backN ρ bs')) (fun i => inB (idsE nb) i = true) bs' nb := by exact zn_0) : ∃ f : Foot, LF C n o τ η f ∧ K f := ⟨_, lf_callG ρ fz go nb ho hd hargs hc hok hgo hgl hw hb hr hnb, k⟩
theorem clgc {C : Cx} {n : Nat} {o : Oper} {τ : Nat → AV} {η : Nat → Ent} {f : FuncId} {os : Array Operand} {ats : Array TypeId} {r : AV} {xs ys : List AV} {bs bs' : List (Nat × Blk)} {ks : List Nat} {c : Operand} {caps : List AV} {K : Foot → Prop} (ρ : List (Nat × Nat)) (fz : List Nat) (go nb : List (Nat × Ent)) (r' : AV) (ho : o.op = .call ⟨.value c, os, ats⟩) (hx : evA τ c = .clo (.func f) [] caps) (hargs : os.toList.map (evA τ) = xs)
    (hc : ACallG C f ys bs ks r bs') (k : K ⟨r', go ++ nb, []⟩) (hd : InB n o.dst := by exact Nat.le_of_ble_eq_true rfl) (hok : okC ρ fz bs ks bs' (idsE go) = true := by rfl) (hgo : allUs η go := by repeat (first | exact trivial | refine And.intro rfl ?_)) (hgl : ltUs n go := by repeat (first | exact trivial | refine And.intro (Nat.le_of_ble_eq_true rfl) ?_))
    (hw : GWL η (fE bs) (lk ρ) (fun i => inB fz i = true) (fun i => inB (keys bs) i = true) (xs ++ caps) ys := by exact zg_0) (hb : GBL η (fE bs) (lk ρ) (fun i => inB fz i = true) (fun i => inB (keys bs) i = true) bs := by exact zg_0)
    (hr : GW (fE bs') (updAll η (go ++ nb)) (lk (backN ρ bs')) (fun _ => False) (fun i => inB (idsE nb) i = true) r r' := by exact zg_0)
    (hnb : nbOk n η (updAll η (go ++ nb)) ρ ks (fE bs') (lk (backN ρ bs')) (fun i => inB (idsE nb) i = true) bs' nb := by exact zn_0) : ∃ f : Foot, LF C n o τ η f ∧ K f := ⟨_, lf_cloG ρ fz go nb ho hd hx hargs hc hok hgo hgl hw hb hr hnb, k⟩
def M_internal_stringslite_HasPrefix (a0 : ByteArray) (a1 : ByteArray) : Option (Bool) :=
  sel (decide ((a0.size : Int) ≥ (a1.size : Int)))
   (grd (0 ≤ (a1.size : Int)) (grd ((a1.size : Int).toNat ≤ a0.size) (some ((a0.extract 0 ((a1.size : Int).toNat)).toList == a1.toList))))
   (some false)
theorem A_internal_stringslite_HasPrefix (a0 : ByteArray) (a1 : ByteArray) {r1 : Bool} (h : M_internal_stringslite_HasPrefix a0 a1 = some r1) : ACall cx 72 [.c (.string a0), .c (.string a1)] (.c (.bool r1)) := by
  refine aOf Tryd.func72 rfl (by decide) rfl (Nat.le_of_ble_eq_true rfl) ?_; intro _; unfold M_internal_stringslite_HasPrefix at h; refine aSR ?_; intro _; refine dr ?_; refine aSR ?_; intro _; refine spl h (fun c1 h => ?_) (fun c1 h => ?_)
  · intro _; obtain ⟨q2, h⟩ := grd_ok h; obtain ⟨q3, h⟩ := grd_ok h; refine pr ?_; refine pr ?_; refine pr ?_; refine dr ?_; refine aRt ?_; intro _; obtain rfl := inj1 h; exact ca_0
  · intro _; refine dr ?_; refine aRt ?_; intro _; obtain rfl := inj1 h; exact ca_0
def M_strings_HasPrefix (a0 : ByteArray) (a1 : ByteArray) : Option (Bool) :=
  ob1 (M_internal_stringslite_HasPrefix a0 a1) (fun z1 =>
   some z1)
theorem A_strings_HasPrefix (a0 : ByteArray) (a1 : ByteArray) {r1 : Bool} (h : M_strings_HasPrefix a0 a1 = some r1) : ACall cx 56 [.c (.string a0), .c (.string a1)] (.c (.bool r1)) := by
  refine aOf Tryd.func56 rfl (by decide) rfl (Nat.le_of_ble_eq_true rfl) ?_; intro _; unfold M_strings_HasPrefix at h; refine aSR ?_; intro _; refine dr ?_; refine aSR ?_; intro _; obtain ⟨z1, u1, h⟩ := ob1_ok h; refine cl rfl (A_internal_stringslite_HasPrefix a0 a1 u1) ?_; intro _; refine dr ?_; refine aRt ?_; intro _; obtain rfl := inj1 h; exact ca_0
def M_datalog_variable (a0 : ByteArray) : Option (Bool) :=
  ob1 (M_strings_HasPrefix a0 (⟨#[63]⟩ : ByteArray)) (fun z1 =>
   some z1)
theorem A_datalog_variable (a0 : ByteArray) {r1 : Bool} (h : M_datalog_variable a0 = some r1) : ACall cx 37 [.c (.string a0)] (.c (.bool r1)) := by
  refine aOf Tryd.func37 rfl (by decide) rfl (Nat.le_of_ble_eq_true rfl) ?_; intro _; unfold M_datalog_variable at h; refine aSR ?_; intro _; refine dr ?_; refine aSR ?_; intro _; obtain ⟨z1, u1, h⟩ := ob1_ok h; refine cl rfl (A_strings_HasPrefix a0 (⟨#[63]⟩ : ByteArray) u1) ?_; intro _; refine dr ?_; refine aRt ?_; intro _; obtain rfl := inj1 h; exact ca_0
def M_stratagem_datalog_matcher_term (a0 : GMat) (a1 : ByteArray) : Option (ByteArray × Bool × GMat) :=
  ob1 (M_datalog_variable a1) (fun z1 =>
   sel (!z1)
    (some (a1, true, a0))
    (some (((getM a0.bind a1).getD (⟨#[]⟩ : ByteArray)), (getM a0.bind a1).isSome, a0)))
theorem A_stratagem_datalog_matcher_term (a0 : GMat) (a1 : ByteArray) {r1 : ByteArray} {r2 : Bool} {r3 : GMat} (h : M_stratagem_datalog_matcher_term a0 a1 = some (r1, r2, r3)) : ACallG cx 66 [.ptr 200 0 0 0, .c (.string a1)] [(200, ⟨107, 7, true, [[.pim [.sl 2 (a0.set.map cGAtom), .mpi (mE kF vR (formsM a0.set))] 0, .sl 2 (a0.body.map cGAtom), .sl 2 (a0.unequal.map cA2_cS), .c (.int .i64 a0.left), .mp 201 0, .clo (.func 64) [] [.ptr 202 0 0 0, .ptr 203 0 0 0, .ptr 204 0 0 0], .c (.bool a0.full)]]⟩), (201, mB kS vS a0.bind), (202, ⟨28, 4, true, [[.c (.string a0.rule.Head.Name), .sl 1 (a0.rule.Head.Args.map cS), .sl 2 (a0.rule.Body.map cGAtom), .sl 2 (a0.rule.Unequal.map cA2_cS)]]⟩), (203, ⟨103, 1, true, [[.ptr 200 0 0 0]]⟩), (204, ⟨102, 1, true, [[.mp 205 0]]⟩), (205, mBt 1000001 kS vA a0.heads)] [200, 201, 202, 203, 204, 205] (.tup [.c (.string r1), .c (.bool r2)]) [(200, ⟨107, 7, true, [[.pim [.sl 2 (r3.set.map cGAtom), .mpi (mE kF vR (formsM r3.set))] 0, .sl 2 (r3.body.map cGAtom), .sl 2 (r3.unequal.map cA2_cS), .c (.int .i64 r3.left), .mp 201 0, .clo (.func 64) [] [.ptr 202 0 0 0, .ptr 203 0 0 0, .ptr 204 0 0 0], .c (.bool r3.full)]]⟩), (201, mB kS vS r3.bind), (202, ⟨28, 4, true, [[.c (.string r3.rule.Head.Name), .sl 1 (r3.rule.Head.Args.map cS), .sl 2 (r3.rule.Body.map cGAtom), .sl 2 (r3.rule.Unequal.map cA2_cS)]]⟩), (203, ⟨103, 1, true, [[.ptr 200 0 0 0]]⟩), (204, ⟨102, 1, true, [[.mp 205 0]]⟩), (205, mBt 1000001 kS vA r3.heads)] := by
  refine acallg_of 206 Tryd.func66 rfl (by decide) rfl (Nat.le_of_ble_eq_true rfl) rfl rfl ?_; intro _; unfold M_stratagem_datalog_matcher_term at h; refine aSR ?_; intro _; refine dr ?_; refine aSq ?_; refine aSR ?_; intro _; obtain ⟨z1, u1, h⟩ := ob1_ok h; refine cl rfl (A_datalog_variable a1 u1) ?_; intro _; refine dr ?_; refine aCd ?_; intro _; refine spl h (fun c2 h => ?_) (fun c2 h => ?_)
  · refine aSR ?_; intro _; refine dr ?_; refine aRt ?_; intro _; obtain ⟨rfl, rfl, rfl⟩ := inj3 h; all_goals (refine Exists.intro [] (And.intro rfl (And.intro ?_ ?_))); all_goals (exact zg_0)
  · refine aSk ?_; refine aSR ?_; intro _; refine ⟨_, lf_mapok (q := a1) (⟨#[]⟩ : ByteArray) (kS_key Tryd.underlying9) kS_inj kS_is rfl (Nat.le_of_ble_eq_true rfl) rfl rfl kvc Tryd.underlying104 (tyTab_ok 9 _ rfl) (fun _ _ _ => .c _), ?_⟩; intro _; refine dr ?_; refine aSR ?_; intro _; refine dr ?_; refine aRt ?_; intro _; obtain ⟨rfl, rfl, rfl⟩ := inj3 h; all_goals (refine Exists.intro [] (And.intro rfl (And.intro ?_ ?_))); all_goals (exact zg_0)
def M_stratagem_datalog_matcher_differ_L1 (a0 : GMat) : Nat → GMat → Int → Option (Bool × GMat)
  | 0, _, _ => none
  | k19 + 1, v17, v18 =>
    sel (decide (v18 < ((a0.unequal.map cA2_cS).length : Int)))
     (ix a0.unequal v18 (fun y20 =>
       ob3 (M_stratagem_datalog_matcher_term v17 y20.1) (fun z21 z22 c23 =>
        ob3 (M_stratagem_datalog_matcher_term c23 y20.2) (fun z24 z25 c26 =>
         sel z22
          (sel z25
            (sel (z21.toList == z24.toList)
              (some (false, c26))
              (M_stratagem_datalog_matcher_differ_L1 a0 k19 c26 (IntKind.i64.wrap (v18 + 1))))
            (M_stratagem_datalog_matcher_differ_L1 a0 k19 c26 (IntKind.i64.wrap (v18 + 1))))
          (M_stratagem_datalog_matcher_differ_L1 a0 k19 c26 (IntKind.i64.wrap (v18 + 1)))))))
     (some (true, v17))
def M_stratagem_datalog_matcher_differ (a0 : GMat) : Option (Bool × GMat) :=
  M_stratagem_datalog_matcher_differ_L1 a0 ((((a0.unequal.map cA2_cS).length : Int)).toNat + 1) a0 0
theorem A_stratagem_datalog_matcher_differ (a0 : GMat) {r1 : Bool} {r2 : GMat} (h : M_stratagem_datalog_matcher_differ a0 = some (r1, r2)) : ACallG cx 80 [.ptr 200 0 0 0] [(200, ⟨107, 7, true, [[.pim [.sl 2 (a0.set.map cGAtom), .mpi (mE kF vR (formsM a0.set))] 0, .sl 2 (a0.body.map cGAtom), .sl 2 (a0.unequal.map cA2_cS), .c (.int .i64 a0.left), .mp 201 0, .clo (.func 64) [] [.ptr 202 0 0 0, .ptr 203 0 0 0, .ptr 204 0 0 0], .c (.bool a0.full)]]⟩), (201, mB kS vS a0.bind), (202, ⟨28, 4, true, [[.c (.string a0.rule.Head.Name), .sl 1 (a0.rule.Head.Args.map cS), .sl 2 (a0.rule.Body.map cGAtom), .sl 2 (a0.rule.Unequal.map cA2_cS)]]⟩), (203, ⟨103, 1, true, [[.ptr 200 0 0 0]]⟩), (204, ⟨102, 1, true, [[.mp 205 0]]⟩), (205, mBt 1000001 kS vA a0.heads)] [200, 201, 202, 203, 204, 205] (.c (.bool r1)) [(200, ⟨107, 7, true, [[.pim [.sl 2 (r2.set.map cGAtom), .mpi (mE kF vR (formsM r2.set))] 0, .sl 2 (r2.body.map cGAtom), .sl 2 (r2.unequal.map cA2_cS), .c (.int .i64 r2.left), .mp 201 0, .clo (.func 64) [] [.ptr 202 0 0 0, .ptr 203 0 0 0, .ptr 204 0 0 0], .c (.bool r2.full)]]⟩), (201, mB kS vS r2.bind), (202, ⟨28, 4, true, [[.c (.string r2.rule.Head.Name), .sl 1 (r2.rule.Head.Args.map cS), .sl 2 (r2.rule.Body.map cGAtom), .sl 2 (r2.rule.Unequal.map cA2_cS)]]⟩), (203, ⟨103, 1, true, [[.ptr 200 0 0 0]]⟩), (204, ⟨102, 1, true, [[.mp 205 0]]⟩), (205, mBt 1000001 kS vA r2.heads)] := by
  refine acallg_of 206 Tryd.func80 rfl (by decide) rfl (Nat.le_of_ble_eq_true rfl) rfl rfl ?_; intro _; unfold M_stratagem_datalog_matcher_differ at h; refine aSR ?_; intro _; refine dr ?_; refine aSq ?_; refine aSR ?_; intro _; refine dr ?_; refine aBk ?_; refine awp_loop (α := Nat × GMat × Int) (fun x => mkG 42 206 [(0, .ptr 200 0 0 0), (12, .sl 2 (a0.unequal.map cA2_cS)), (13, .c (.int .i64 ((a0.unequal.map cA2_cS).length : Int))), (14, .c (.int .i64 x.2.2))] [(200, ⟨107, 7, true, [[.pim [.sl 2 (x.2.1.set.map cGAtom), .mpi (mE kF vR (formsM x.2.1.set))] 0, .sl 2 (x.2.1.body.map cGAtom), .sl 2 (x.2.1.unequal.map cA2_cS), .c (.int .i64 x.2.1.left), .mp 201 0, .clo (.func 64) [] [.ptr 202 0 0 0, .ptr 203 0 0 0, .ptr 204 0 0 0], .c (.bool x.2.1.full)]]⟩), (201, mB kS vS x.2.1.bind), (202, ⟨28, 4, true, [[.c (.string x.2.1.rule.Head.Name), .sl 1 (x.2.1.rule.Head.Args.map cS), .sl 2 (x.2.1.rule.Body.map cGAtom), .sl 2 (x.2.1.rule.Unequal.map cA2_cS)]]⟩), (203, ⟨103, 1, true, [[.ptr 200 0 0 0]]⟩), (204, ⟨102, 1, true, [[.mp 205 0]]⟩), (205, mBt 1000001 kS vA x.2.1.heads)]) (fun x => M_stratagem_datalog_matcher_differ_L1 a0 x.1 x.2.1 x.2.2 = some (r1, r2)) (fun x => x.1) ((((a0.unequal.map cA2_cS).length : Int)).toNat + 1, a0, 0) h ?_ ?_
  · exact ca_0
  · intro x1 h; intro _; obtain ⟨k19, m2, h⟩ := succ_of (f := fun n => M_stratagem_datalog_matcher_differ_L1 a0 n x1.2.1 x1.2.2) rfl h; replace h : M_stratagem_datalog_matcher_differ_L1 a0 (k19 + 1) x1.2.1 x1.2.2 = some (r1, r2) := h; rw [M_stratagem_datalog_matcher_differ_L1] at h; refine aSR ?_; intro _; refine dr ?_; refine aSq ?_; refine aCd ?_; intro _; refine spl h (fun c3 h => ?_) (fun c3 h => ?_)
    · refine aSk ?_; refine aSq ?_; refine aBk ?_; refine aSR ?_; intro _; obtain ⟨y20, w4, q5, h⟩ := ix_ok h; refine Exists.intro (cA2_cS y20) (And.intro (map_at' w4) ?_); intro _; refine pr ?_; refine dr ?_; refine aSR ?_; intro _; refine ⟨_, lf_arrAt rfl (Nat.le_of_ble_eq_true rfl) rfl rfl rfl (tyTab_ok 58 _ rfl) rfl (tyTab_ok 9 _ rfl) (by decide) (by decide), ?_⟩; intro _; obtain ⟨z21, z22, c23, u6, h⟩ := ob3_ok h; refine clg [(200, 200), (201, 201), (202, 202), (203, 203), (204, 204), (205, 205)] [] [] [(200, ⟨0, some ⟨107, 7, true, [[.pim [.sl 2 (c23.set.map cGAtom), .mpi (mE kF vR (formsM c23.set))] 0, .sl 2 (c23.body.map cGAtom), .sl 2 (c23.unequal.map cA2_cS), .c (.int .i64 c23.left), .mp 201 0, .clo (.func 64) [] [.ptr 202 0 0 0, .ptr 203 0 0 0, .ptr 204 0 0 0], .c (.bool c23.full)]]⟩⟩), (201, ⟨0, some (mB kS vS c23.bind)⟩), (202, ⟨0, some ⟨28, 4, true, [[.c (.string c23.rule.Head.Name), .sl 1 (c23.rule.Head.Args.map cS), .sl 2 (c23.rule.Body.map cGAtom), .sl 2 (c23.rule.Unequal.map cA2_cS)]]⟩⟩), (203, ⟨0, some ⟨103, 1, true, [[.ptr 200 0 0 0]]⟩⟩), (204, ⟨0, some ⟨102, 1, true, [[.mp 205 0]]⟩⟩), (205, ⟨0, some (mBt 1000001 kS vA c23.heads)⟩)] (.tup [.c (.string z21), .c (.bool z22)]) rfl rfl (A_stratagem_datalog_matcher_term x1.2.1 y20.1 u6) ?_; intro _; refine dr ?_; refine aSR ?_; intro _; refine ⟨_, lf_arrAt rfl (Nat.le_of_ble_eq_true rfl) rfl rfl rfl (tyTab_ok 58 _ rfl) rfl (tyTab_ok 9 _ rfl) (by decide) (by decide), ?_⟩; intro _; obtain ⟨z24, z25, c26, u7, h⟩ := ob3_ok h; refine clg [(200, 200), (201, 201), (202, 202), (203, 203), (204, 204), (205, 205)] [] [] [(200, ⟨0, some ⟨107, 7, true, [[.pim [.sl 2 (c26.set.map cGAtom), .mpi (mE kF vR (formsM c26.set))] 0, .sl 2 (c26.body.map cGAtom), .sl 2 (c26.unequal.map cA2_cS), .c (.int .i64 c26.left), .mp 201 0, .clo (.func 64) [] [.ptr 202 0 0 0, .ptr 203 0 0 0, .ptr 204 0 0 0], .c (.bool c26.full)]]⟩⟩), (201, ⟨0, some (mB kS vS c26.bind)⟩), (202, ⟨0, some ⟨28, 4, true, [[.c (.string c26.rule.Head.Name), .sl 1 (c26.rule.Head.Args.map cS), .sl 2 (c26.rule.Body.map cGAtom), .sl 2 (c26.rule.Unequal.map cA2_cS)]]⟩⟩), (203, ⟨0, some ⟨103, 1, true, [[.ptr 200 0 0 0]]⟩⟩), (204, ⟨0, some ⟨102, 1, true, [[.mp 205 0]]⟩⟩), (205, ⟨0, some (mBt 1000001 kS vA c26.heads)⟩)] (.tup [.c (.string z24), .c (.bool z25)]) rfl rfl (A_stratagem_datalog_matcher_term c23 y20.2 u7) ?_; intro _; refine dr ?_; refine aSR ?_; intro _; refine spl h (fun c8 h => ?_) (fun c8 h => ?_)
      · intro _; refine spl h (fun c9 h => ?_) (fun c9 h => ?_)
        · intro _; refine dr ?_; refine aCd ?_; intro _; refine spl h (fun c10 h => ?_) (fun c10 h => ?_)
          · refine aSR ?_; intro _; refine dr ?_; refine aRt ?_; intro _; obtain ⟨rfl, rfl⟩ := inj2 h; all_goals (refine Exists.intro [] (And.intro rfl (And.intro ?_ ?_))); all_goals (exact zg_0)
          · refine aSk ?_; refine aRg ?_; intro _; refine dr ?_; refine ⟨(k19, c26, (IntKind.i64.wrap (x1.2.2 + 1))), h, ltS m2, ?_⟩; exact ca_0
        · intro _; refine dr ?_; refine aCd ?_; intro _; refine litF ?_; refine aSk ?_; refine aRg ?_; intro _; refine dr ?_; refine ⟨(k19, c26, (IntKind.i64.wrap (x1.2.2 + 1))), h, ltS m2, ?_⟩; exact ca_0
      · intro _; refine dr ?_; refine aCd ?_; intro _; refine litF ?_; refine aSk ?_; refine aRg ?_; intro _; refine dr ?_; refine ⟨(k19, c26, (IntKind.i64.wrap (x1.2.2 + 1))), h, ltS m2, ?_⟩; exact ca_0
    · refine aEx ?_; refine aSR ?_; intro _; refine dr ?_; refine aRt ?_; intro _; obtain ⟨rfl, rfl⟩ := inj2 h; all_goals (refine Exists.intro [] (And.intro rfl (And.intro ?_ ?_))); all_goals (exact zg_0)
def M_stratagem_datalog_matcher_unify_L1 (a1 : GAtom) (a2 : GAtom) : Nat → GMat → Int → (List ByteArray) → Option ((List ByteArray) × Bool × GMat)
  | 0, _, _, _ => none
  | k19 + 1, v16, v17, v18 =>
    sel (decide (v17 < ((a1.Args.map cS).length : Int)))
     (ix a1.Args v17 (fun y20 =>
       ob3 (M_stratagem_datalog_matcher_term v16 y20) (fun z21 z22 c23 =>
        sel (!z22)
         (ix a2.Args v17 (fun y24 =>
           grd ((v18.length + 1) * 16 ≤ 140737488355328) (M_stratagem_datalog_matcher_unify_L1 a1 a2 k19 ({ set := c23.set, body := c23.body, unequal := c23.unequal, left := c23.left, bind := (setM c23.bind y20 y24), full := c23.full, rule := c23.rule, heads := c23.heads : GMat }) (IntKind.i64.wrap (v17 + 1)) (v18 ++ [y20]))))
         (ix a2.Args v17 (fun y25 =>
           sel (!(z21.toList == y25.toList))
            (grd (v18.length ≤ 140737488355328) (some (v18, false, c23)))
            (M_stratagem_datalog_matcher_unify_L1 a1 a2 k19 c23 (IntKind.i64.wrap (v17 + 1)) v18))))))
     (grd (v18.length ≤ 140737488355328) (some (v18, true, v16)))
def M_stratagem_datalog_matcher_unify (a0 : GMat) (a1 : GAtom) (a2 : GAtom) : Option ((List ByteArray) × Bool × GMat) :=
  M_stratagem_datalog_matcher_unify_L1 a1 a2 ((((a1.Args.map cS).length : Int)).toNat + 1) a0 0 []
theorem A_stratagem_datalog_matcher_unify (a0 : GMat) (a1 : GAtom) (a2 : GAtom) {r1 : List ByteArray} {r2 : Bool} {r3 : GMat} (h : M_stratagem_datalog_matcher_unify a0 a1 a2 = some (r1, r2, r3)) : ACallG cx 81 [.ptr 200 0 0 0, .agg [.c (.string a1.Name), .sl 1 (a1.Args.map cS)], .agg [.c (.string a2.Name), .sl 1 (a2.Args.map cS)]] [(200, ⟨107, 7, true, [[.pim [.sl 2 (a0.set.map cGAtom), .mpi (mE kF vR (formsM a0.set))] 0, .sl 2 (a0.body.map cGAtom), .sl 2 (a0.unequal.map cA2_cS), .c (.int .i64 a0.left), .mp 201 0, .clo (.func 64) [] [.ptr 202 0 0 0, .ptr 203 0 0 0, .ptr 204 0 0 0], .c (.bool a0.full)]]⟩), (201, mB kS vS a0.bind), (202, ⟨28, 4, true, [[.c (.string a0.rule.Head.Name), .sl 1 (a0.rule.Head.Args.map cS), .sl 2 (a0.rule.Body.map cGAtom), .sl 2 (a0.rule.Unequal.map cA2_cS)]]⟩), (203, ⟨103, 1, true, [[.ptr 200 0 0 0]]⟩), (204, ⟨102, 1, true, [[.mp 205 0]]⟩), (205, mBt 1000001 kS vA a0.heads)] [200, 201, 202, 203, 204, 205] (.tup [.sl 1 (r1.map cS), .c (.bool r2)]) [(200, ⟨107, 7, true, [[.pim [.sl 2 (r3.set.map cGAtom), .mpi (mE kF vR (formsM r3.set))] 0, .sl 2 (r3.body.map cGAtom), .sl 2 (r3.unequal.map cA2_cS), .c (.int .i64 r3.left), .mp 201 0, .clo (.func 64) [] [.ptr 202 0 0 0, .ptr 203 0 0 0, .ptr 204 0 0 0], .c (.bool r3.full)]]⟩), (201, mB kS vS r3.bind), (202, ⟨28, 4, true, [[.c (.string r3.rule.Head.Name), .sl 1 (r3.rule.Head.Args.map cS), .sl 2 (r3.rule.Body.map cGAtom), .sl 2 (r3.rule.Unequal.map cA2_cS)]]⟩), (203, ⟨103, 1, true, [[.ptr 200 0 0 0]]⟩), (204, ⟨102, 1, true, [[.mp 205 0]]⟩), (205, mBt 1000001 kS vA r3.heads)] := by
  refine acallg_of 206 Tryd.func81 rfl (by decide) rfl (Nat.le_of_ble_eq_true rfl) rfl rfl ?_; intro _; unfold M_stratagem_datalog_matcher_unify at h; refine aSR ?_; intro _; refine dr ?_; refine aSR ?_; intro _; refine dr ?_; refine aSq ?_; refine aSR ?_; intro _; refine dr ?_; refine aBk ?_; refine awp_loop (α := Nat × GMat × Int × (List ByteArray)) (fun x => mkG 53 206 [(0, .ptr 200 0 0 0), (5, .ptr 5 0 0 0), (8, .own 42 0 0 x.2.2.2.length), (14, .sl 1 (a1.Args.map cS)), (15, .c (.int .i64 ((a1.Args.map cS).length : Int))), (16, .c (.int .i64 x.2.2.1))] [(5, ⟨24, 2, true, [[.c (.string a2.Name), .sl 1 (a2.Args.map cS)]]⟩), (42, ⟨9, 1, false, x.2.2.2.map cS⟩), (200, ⟨107, 7, true, [[.pim [.sl 2 (x.2.1.set.map cGAtom), .mpi (mE kF vR (formsM x.2.1.set))] 0, .sl 2 (x.2.1.body.map cGAtom), .sl 2 (x.2.1.unequal.map cA2_cS), .c (.int .i64 x.2.1.left), .mp 201 0, .clo (.func 64) [] [.ptr 202 0 0 0, .ptr 203 0 0 0, .ptr 204 0 0 0], .c (.bool x.2.1.full)]]⟩), (201, mB kS vS x.2.1.bind), (202, ⟨28, 4, true, [[.c (.string x.2.1.rule.Head.Name), .sl 1 (x.2.1.rule.Head.Args.map cS), .sl 2 (x.2.1.rule.Body.map cGAtom), .sl 2 (x.2.1.rule.Unequal.map cA2_cS)]]⟩), (203, ⟨103, 1, true, [[.ptr 200 0 0 0]]⟩), (204, ⟨102, 1, true, [[.mp 205 0]]⟩), (205, mBt 1000001 kS vA x.2.1.heads)]) (fun x => M_stratagem_datalog_matcher_unify_L1 a1 a2 x.1 x.2.1 x.2.2.1 x.2.2.2 = some (r1, r2, r3)) (fun x => x.1) ((((a1.Args.map cS).length : Int)).toNat + 1, a0, 0, []) h ?_ ?_
  · exact ca_0
  · intro x1 h; intro _; obtain ⟨k19, m2, h⟩ := succ_of (f := fun n => M_stratagem_datalog_matcher_unify_L1 a1 a2 n x1.2.1 x1.2.2.1 x1.2.2.2) rfl h; replace h : M_stratagem_datalog_matcher_unify_L1 a1 a2 (k19 + 1) x1.2.1 x1.2.2.1 x1.2.2.2 = some (r1, r2, r3) := h; rw [M_stratagem_datalog_matcher_unify_L1] at h; refine aSR ?_; intro _; refine dr ?_; refine aSq ?_; refine aCd ?_; intro _; refine spl h (fun c3 h => ?_) (fun c3 h => ?_)
    · refine aSk ?_; refine aSq ?_; refine aBk ?_; refine aSR ?_; intro _; obtain ⟨y20, w4, q5, h⟩ := ix_ok h; refine Exists.intro (cS y20) (And.intro (map_at' w4) ?_); intro _; refine pr ?_; refine dr ?_; refine aSR ?_; intro _; obtain ⟨z21, z22, c23, u6, h⟩ := ob3_ok h; refine clg [(200, 200), (201, 201), (202, 202), (203, 203), (204, 204), (205, 205)] [] [] [(200, ⟨0, some ⟨107, 7, true, [[.pim [.sl 2 (c23.set.map cGAtom), .mpi (mE kF vR (formsM c23.set))] 0, .sl 2 (c23.body.map cGAtom), .sl 2 (c23.unequal.map cA2_cS), .c (.int .i64 c23.left), .mp 201 0, .clo (.func 64) [] [.ptr 202 0 0 0, .ptr 203 0 0 0, .ptr 204 0 0 0], .c (.bool c23.full)]]⟩⟩), (201, ⟨0, some (mB kS vS c23.bind)⟩), (202, ⟨0, some ⟨28, 4, true, [[.c (.string c23.rule.Head.Name), .sl 1 (c23.rule.Head.Args.map cS), .sl 2 (c23.rule.Body.map cGAtom), .sl 2 (c23.rule.Unequal.map cA2_cS)]]⟩⟩), (203, ⟨0, some ⟨103, 1, true, [[.ptr 200 0 0 0]]⟩⟩), (204, ⟨0, some ⟨102, 1, true, [[.mp 205 0]]⟩⟩), (205, ⟨0, some (mBt 1000001 kS vA c23.heads)⟩)] (.tup [.c (.string z21), .c (.bool z22)]) rfl rfl (A_stratagem_datalog_matcher_term x1.2.1 y20 u6) ?_; intro _; refine dr ?_; refine aSR ?_; intro _; refine dr ?_; refine aCd ?_; intro _; refine spl h (fun c7 h => ?_) (fun c7 h => ?_)
      · refine aSR ?_; intro _; obtain ⟨y24, w8, q9, h⟩ := ix_ok h; refine Exists.intro (cS y24) (And.intro (map_at' w8) ?_); intro _; refine ⟨_, lf_mapsetT (t0 := 1000000) (ev := vS) (q := y20) (v := y24) (kS_key Tryd.underlying9) kS_inj kS_is rfl rfl rfl rfl kvc rfl Tryd.underlying104, ?_⟩; intro _; refine pr ?_; refine dr ?_; refine aRg ?_; intro _; obtain ⟨q10, h⟩ := grd_ok h; refine pl ?_; refine pl ?_; refine And.intro (by first | with_reducible assumption | (show (x1.2.2.2.length + 1) * 16 ≤ 140737488355328; with_reducible assumption) | omega | (simp; omega)) ?_; refine pe ?_; refine dr ?_; refine aRg ?_; intro _; refine dr ?_; refine ⟨(k19, { set := c23.set, body := c23.body, unequal := c23.unequal, left := c23.left, bind := (setM c23.bind y20 y24), full := c23.full, rule := c23.rule, heads := c23.heads : GMat }, (IntKind.i64.wrap (x1.2.2.1 + 1)), (x1.2.2.2 ++ [y20])), h, ltS m2, ?_⟩; exact ca_0
      · refine aSR ?_; intro _; obtain ⟨y25, w11, q12, h⟩ := ix_ok h; refine Exists.intro (cS y25) (And.intro (map_at' w11) ?_); intro _; refine pr ?_; refine dr ?_; refine aCd ?_; intro _; refine spl h (fun c13 h => ?_) (fun c13 h => ?_)
        · refine aSR ?_; intro _; refine dr ?_; refine aRt ?_; obtain ⟨q14, h⟩ := grd_ok h; intro _; obtain ⟨rfl, rfl, rfl⟩ := inj3 h; all_goals (refine Exists.intro [] (And.intro rfl (And.intro ?_ ?_))); all_goals (exact zg_0)
        · refine aSk ?_; refine aRg ?_; intro _; refine dr ?_; refine ⟨(k19, c23, (IntKind.i64.wrap (x1.2.2.1 + 1)), x1.2.2.2), h, ltS m2, ?_⟩; exact ca_0
    · refine aEx ?_; refine aSR ?_; intro _; refine dr ?_; refine aRt ?_; obtain ⟨q15, h⟩ := grd_ok h; intro _; obtain ⟨rfl, rfl, rfl⟩ := inj3 h; all_goals (refine Exists.intro [] (And.intro rfl (And.intro ?_ ?_))); all_goals (exact zg_0)
def M_datalog_round_1_L1 (a0 : GMat) : Nat → GMat → ByteArray → Int → (List ByteArray) → Option (GMat)
  | 0, _, _, _, _ => none
  | k20 + 1, v16, v17, v18, v19 =>
    sel (decide (v18 < ((a0.rule.Head.Args.map cS).length : Int)))
     (ix a0.rule.Head.Args v18 (fun y21 =>
       ob3 (M_stratagem_datalog_matcher_term v16 y21) (fun z22 _ c24 =>
        grd ((v19.length + 1) * 16 ≤ 140737488355328) (ob1 (M_Itoa (z22.size : Int)) (fun z25 =>
         grd ((⟨#[32]⟩ : ByteArray).size + z25.size ≤ 9223372036854775807) (grd (((⟨#[32]⟩ : ByteArray) ++ z25).size + (⟨#[32]⟩ : ByteArray).size ≤ 9223372036854775807) (grd ((((⟨#[32]⟩ : ByteArray) ++ z25) ++ (⟨#[32]⟩ : ByteArray)).size + z22.size ≤ 9223372036854775807) (grd (v17.size + ((((⟨#[32]⟩ : ByteArray) ++ z25) ++ (⟨#[32]⟩ : ByteArray)) ++ z22).size ≤ 9223372036854775807) (M_datalog_round_1_L1 a0 k20 c24 (v17 ++ ((((⟨#[32]⟩ : ByteArray) ++ z25) ++ (⟨#[32]⟩ : ByteArray)) ++ z22)) (IntKind.i64.wrap (v18 + 1)) (v19 ++ [z22]))))))))))
     (grd (v19.length ≤ 140737488355328) (some ({ set := v16.set, body := v16.body, unequal := v16.unequal, left := v16.left, bind := v16.bind, full := v16.full, rule := v16.rule, heads := (setM v16.heads v17 ({ Name := a0.rule.Head.Name, Args := v19 : GAtom })) : GMat })))
def M_datalog_round_1 (a0 : GMat) : Option (GMat) :=
  ob1 (M_Itoa (a0.rule.Head.Name.size : Int)) (fun z1 =>
   grd (z1.size + (⟨#[32]⟩ : ByteArray).size ≤ 9223372036854775807) (grd ((z1 ++ (⟨#[32]⟩ : ByteArray)).size + a0.rule.Head.Name.size ≤ 9223372036854775807) (M_datalog_round_1_L1 a0 ((((a0.rule.Head.Args.map cS).length : Int)).toNat + 1) a0 ((z1 ++ (⟨#[32]⟩ : ByteArray)) ++ a0.rule.Head.Name) 0 [])))
theorem A_datalog_round_1 (a0 : GMat) {r1 : GMat} (h : M_datalog_round_1 a0 = some r1) : ACallG cx 64 [.mp 201 0, .ptr 202 0 0 0, .ptr 203 0 0 0, .ptr 204 0 0 0] [(200, ⟨107, 7, true, [[.pim [.sl 2 (a0.set.map cGAtom), .mpi (mE kF vR (formsM a0.set))] 0, .sl 2 (a0.body.map cGAtom), .sl 2 (a0.unequal.map cA2_cS), .c (.int .i64 a0.left), .mp 201 0, .clo (.func 64) [] [.ptr 202 0 0 0, .ptr 203 0 0 0, .ptr 204 0 0 0], .c (.bool a0.full)]]⟩), (201, mB kS vS a0.bind), (202, ⟨28, 4, true, [[.c (.string a0.rule.Head.Name), .sl 1 (a0.rule.Head.Args.map cS), .sl 2 (a0.rule.Body.map cGAtom), .sl 2 (a0.rule.Unequal.map cA2_cS)]]⟩), (203, ⟨103, 1, true, [[.ptr 200 0 0 0]]⟩), (204, ⟨102, 1, true, [[.mp 205 0]]⟩), (205, mBt 1000001 kS vA a0.heads)] [200, 201, 202, 203, 204, 205] (.tup []) [(200, ⟨107, 7, true, [[.pim [.sl 2 (r1.set.map cGAtom), .mpi (mE kF vR (formsM r1.set))] 0, .sl 2 (r1.body.map cGAtom), .sl 2 (r1.unequal.map cA2_cS), .c (.int .i64 r1.left), .mp 201 0, .clo (.func 64) [] [.ptr 202 0 0 0, .ptr 203 0 0 0, .ptr 204 0 0 0], .c (.bool r1.full)]]⟩), (201, mB kS vS r1.bind), (202, ⟨28, 4, true, [[.c (.string r1.rule.Head.Name), .sl 1 (r1.rule.Head.Args.map cS), .sl 2 (r1.rule.Body.map cGAtom), .sl 2 (r1.rule.Unequal.map cA2_cS)]]⟩), (203, ⟨103, 1, true, [[.ptr 200 0 0 0]]⟩), (204, ⟨102, 1, true, [[.mp 205 0]]⟩), (205, mBt 1000001 kS vA r1.heads)] := by
  refine acallg_of 206 Tryd.func64 rfl (by decide) rfl (Nat.le_of_ble_eq_true rfl) rfl rfl ?_; intro _; unfold M_datalog_round_1 at h; refine aSR ?_; intro _; refine dr ?_; refine aSR ?_; intro _; obtain ⟨z1, u1, h⟩ := ob1_ok h; refine cl rfl (A_Itoa (a0.rule.Head.Name.size : Int) u1) ?_; intro _; obtain ⟨q2, h⟩ := grd_ok h; obtain ⟨q3, h⟩ := grd_ok h; refine pr ?_; refine pr ?_; refine dr ?_; refine aSq ?_; refine aSR ?_; intro _; refine dr ?_; refine aBk ?_; refine awp_loop (α := Nat × GMat × ByteArray × Int × (List ByteArray)) (fun x => mkG 58 206 [(2, .ptr 203 0 0 0), (3, .ptr 204 0 0 0), (5, .ptr 5 0 0 0), (6, .c (.string x.2.2.1)), (27, .sl 1 (a0.rule.Head.Args.map cS)), (28, .c (.int .i64 ((a0.rule.Head.Args.map cS).length : Int))), (29, .c (.int .i64 x.2.2.2.1))] [(5, ⟨24, 2, true, [[.c (.string a0.rule.Head.Name), .own 43 0 0 x.2.2.2.2.length]]⟩), (43, ⟨9, 1, false, x.2.2.2.2.map cS⟩), (200, ⟨107, 7, true, [[.pim [.sl 2 (x.2.1.set.map cGAtom), .mpi (mE kF vR (formsM x.2.1.set))] 0, .sl 2 (x.2.1.body.map cGAtom), .sl 2 (x.2.1.unequal.map cA2_cS), .c (.int .i64 x.2.1.left), .mp 201 0, .clo (.func 64) [] [.ptr 202 0 0 0, .ptr 203 0 0 0, .ptr 204 0 0 0], .c (.bool x.2.1.full)]]⟩), (201, mB kS vS x.2.1.bind), (202, ⟨28, 4, true, [[.c (.string x.2.1.rule.Head.Name), .sl 1 (x.2.1.rule.Head.Args.map cS), .sl 2 (x.2.1.rule.Body.map cGAtom), .sl 2 (x.2.1.rule.Unequal.map cA2_cS)]]⟩), (203, ⟨103, 1, true, [[.ptr 200 0 0 0]]⟩), (204, ⟨102, 1, true, [[.mp 205 0]]⟩), (205, mBt 1000001 kS vA x.2.1.heads)]) (fun x => M_datalog_round_1_L1 a0 x.1 x.2.1 x.2.2.1 x.2.2.2.1 x.2.2.2.2 = some r1) (fun x => x.1) ((((a0.rule.Head.Args.map cS).length : Int)).toNat + 1, a0, ((z1 ++ (⟨#[32]⟩ : ByteArray)) ++ a0.rule.Head.Name), 0, []) h ?_ ?_
  · exact ca_0
  · intro x4 h; intro _; obtain ⟨k20, m5, h⟩ := succ_of (f := fun n => M_datalog_round_1_L1 a0 n x4.2.1 x4.2.2.1 x4.2.2.2.1 x4.2.2.2.2) rfl h; replace h : M_datalog_round_1_L1 a0 (k20 + 1) x4.2.1 x4.2.2.1 x4.2.2.2.1 x4.2.2.2.2 = some r1 := h; rw [M_datalog_round_1_L1] at h; refine aSR ?_; intro _; refine dr ?_; refine aSq ?_; refine aCd ?_; intro _; refine spl h (fun c6 h => ?_) (fun c6 h => ?_)
    · refine aSk ?_; refine aSq ?_; refine aBk ?_; refine aSR ?_; intro _; obtain ⟨y21, w7, q8, h⟩ := ix_ok h; refine Exists.intro (cS y21) (And.intro (map_at' w7) ?_); intro _; refine pr ?_; refine dr ?_; refine aSR ?_; intro _; obtain ⟨z22, z23, c24, u9, h⟩ := ob3_ok h; refine clg [(200, 200), (201, 201), (202, 202), (203, 203), (204, 204), (205, 205)] [] [] [(200, ⟨0, some ⟨107, 7, true, [[.pim [.sl 2 (c24.set.map cGAtom), .mpi (mE kF vR (formsM c24.set))] 0, .sl 2 (c24.body.map cGAtom), .sl 2 (c24.unequal.map cA2_cS), .c (.int .i64 c24.left), .mp 201 0, .clo (.func 64) [] [.ptr 202 0 0 0, .ptr 203 0 0 0, .ptr 204 0 0 0], .c (.bool c24.full)]]⟩⟩), (201, ⟨0, some (mB kS vS c24.bind)⟩), (202, ⟨0, some ⟨28, 4, true, [[.c (.string c24.rule.Head.Name), .sl 1 (c24.rule.Head.Args.map cS), .sl 2 (c24.rule.Body.map cGAtom), .sl 2 (c24.rule.Unequal.map cA2_cS)]]⟩⟩), (203, ⟨0, some ⟨103, 1, true, [[.ptr 200 0 0 0]]⟩⟩), (204, ⟨0, some ⟨102, 1, true, [[.mp 205 0]]⟩⟩), (205, ⟨0, some (mBt 1000001 kS vA c24.heads)⟩)] (.tup [.c (.string z22), .c (.bool z23)]) rfl rfl (A_stratagem_datalog_matcher_term x4.2.1 y21 u9) ?_; intro _; refine dr ?_; refine aSR ?_; intro _; obtain ⟨q10, h⟩ := grd_ok h; refine pl ?_; refine pl ?_; refine And.intro (by first | with_reducible assumption | (show (x4.2.2.2.2.length + 1) * 16 ≤ 140737488355328; with_reducible assumption) | omega | (simp; omega)) ?_; refine pe ?_; refine dr ?_; refine aRg ?_; intro _; obtain ⟨z25, u11, h⟩ := ob1_ok h; refine cl rfl (A_Itoa (z22.size : Int) u11) ?_; intro _; obtain ⟨q12, h⟩ := grd_ok h; obtain ⟨q13, h⟩ := grd_ok h; obtain ⟨q14, h⟩ := grd_ok h; obtain ⟨q15, h⟩ := grd_ok h; refine pr ?_; refine pr ?_; refine pr ?_; refine pr ?_; refine dr ?_; refine aRg ?_; intro _; refine dr ?_; refine ⟨(k20, c24, (x4.2.2.1 ++ ((((⟨#[32]⟩ : ByteArray) ++ z25) ++ (⟨#[32]⟩ : ByteArray)) ++ z22)), (IntKind.i64.wrap (x4.2.2.2.1 + 1)), (x4.2.2.2.2 ++ [z22])), h, ltS m5, ?_⟩; exact ca_0
    · refine aEx ?_; obtain ⟨q16, h⟩ := grd_ok h; refine awp_wk (mkG 58 206 [(3, .ptr 204 0 0 0), (5, .ptr 5 0 0 0), (6, .c (.string x4.2.2.1))] [(5, ⟨24, 2, true, [[.c (.string a0.rule.Head.Name), .sl 1 (x4.2.2.2.2.map cS)]]⟩), (200, ⟨107, 7, true, [[.pim [.sl 2 (x4.2.1.set.map cGAtom), .mpi (mE kF vR (formsM x4.2.1.set))] 0, .sl 2 (x4.2.1.body.map cGAtom), .sl 2 (x4.2.1.unequal.map cA2_cS), .c (.int .i64 x4.2.1.left), .mp 201 0, .clo (.func 64) [] [.ptr 202 0 0 0, .ptr 203 0 0 0, .ptr 204 0 0 0], .c (.bool x4.2.1.full)]]⟩), (201, mB kS vS x4.2.1.bind), (202, ⟨28, 4, true, [[.c (.string x4.2.1.rule.Head.Name), .sl 1 (x4.2.1.rule.Head.Args.map cS), .sl 2 (x4.2.1.rule.Body.map cGAtom), .sl 2 (x4.2.1.rule.Unequal.map cA2_cS)]]⟩), (203, ⟨103, 1, true, [[.ptr 200 0 0 0]]⟩), (204, ⟨102, 1, true, [[.mp 205 0]]⟩), (205, mBt 1000001 kS vA x4.2.1.heads)]) ?_ ?_
      · exact ca_0
      · intro _; refine aRg ?_; intro _; refine ⟨_, lf_mapsetT (t0 := 1000001) (ev := vA) (q := x4.2.2.1) (v := { Name := a0.rule.Head.Name, Args := x4.2.2.2.2 : GAtom }) (kS_key Tryd.underlying9) kS_inj kS_is rfl rfl rfl rfl kvc rfl Tryd.underlying102, ?_⟩; intro _; refine dr ?_; intro _; obtain rfl := inj1 h; all_goals (refine Exists.intro [] (And.intro rfl (And.intro ?_ ?_))); all_goals (exact zg_0)
def M_stratagem_datalog_matcher_from_L1 (z185 : List ByteArray) : Nat → GMat → Int → Option (GMat)
  | 0, _, _ => none
  | k214 + 1, v212, v213 =>
    sel (decide (v213 < ((z185.map cS).length : Int)))
     (ix z185 v213 (fun y215 =>
       M_stratagem_datalog_matcher_from_L1 z185 k214 ({ set := v212.set, body := v212.body, unequal := v212.unequal, left := v212.left, bind := (delM v212.bind y215), full := v212.full, rule := v212.rule, heads := v212.heads : GMat }) (IntKind.i64.wrap (v213 + 1))))
     (some v212)
def M_stratagem_datalog_matcher_from_L2 (a1 : Int) (rec : GMat → Int → Option (GMat)) (v3 : GMat) (y9 : GAtom) : Nat → GMat → Int → Option (GMat)
  | 0, _, _ => none
  | k148 + 1, v146, v147 =>
    sel (decide (v147 < ((((getM (formsM v3.set) (y9.Name, ((y9.Args.map cS).length : Int))).getD []).map cGAtom).length : Int)))
     (ob1 (ix ((getM (formsM v3.set) (y9.Name, ((y9.Args.map cS).length : Int))).getD []) v147 (fun y184 =>
        ob3 (M_stratagem_datalog_matcher_unify v146 y9 y184) (fun z185 z186 c187 =>
         ob1 (sel z186
           (ob1 (rec c187 (IntKind.i64.wrap (a1 + 1))) (fun c191 =>
             some c191))
           (some c187) : Option (GMat))
          (fun v189 => ob1 (M_stratagem_datalog_matcher_from_L1 z185 ((((z185.map cS).length : Int)).toNat + 1) v189 0 : Option (GMat))
             (fun v203 => sel v203.full
                (some (.inr v203))
                (some (.inl v203)))))) : Option (GMat ⊕ GMat))
       (osum
       (fun v181 => M_stratagem_datalog_matcher_from_L2 a1 rec v3 y9 k148 v181 (IntKind.i64.wrap (v147 + 1)))
       (fun r182 => some r182)))
     (some v146)
def M_stratagem_datalog_matcher_from : Nat → GMat → Int → Option (GMat)
  | 0, _, _ => none
  | g + 1, a0, a1 =>
    ob1 (sel a0.full
    (some (.inr a0))
    (ob2 (M_stratagem_datalog_matcher_differ a0) (fun z6 c7 =>
      sel (!z6)
       (some (.inr c7))
       (some (.inl c7)))) : Option (GMat ⊕ GMat))
   (osum
   (fun v3 => sel (a1 == ((v3.body.map cGAtom).length : Int))
      (sel (v3.left == 0)
        (some ({ set := v3.set, body := v3.body, unequal := v3.unequal, left := v3.left, bind := v3.bind, full := true, rule := v3.rule, heads := v3.heads : GMat }))
        (ob1 (M_datalog_round_1 ({ set := v3.set, body := v3.body, unequal := v3.unequal, left := (IntKind.i64.wrap (v3.left - 1)), bind := v3.bind, full := v3.full, rule := v3.rule, heads := v3.heads : GMat })) (fun c8 =>
          some c8)))
      (ix v3.body a1 (fun y9 =>
        M_stratagem_datalog_matcher_from_L2 a1 (M_stratagem_datalog_matcher_from g) v3 y9 ((((((getM (formsM v3.set) (y9.Name, ((y9.Args.map cS).length : Int))).getD []).map cGAtom).length : Int)).toNat + 1) v3 0)))
   (fun r4 => some r4))
theorem A_stratagem_datalog_matcher_from : ∀ (g : Nat) (a0 : GMat) (a1 : Int) {r1 : GMat} (_ : M_stratagem_datalog_matcher_from g a0 a1 = some r1), ACallG cx 67 [.ptr 200 0 0 0, .c (.int .i64 a1)] [(200, ⟨107, 7, true, [[.pim [.sl 2 (a0.set.map cGAtom), .mpi (mE kF vR (formsM a0.set))] 0, .sl 2 (a0.body.map cGAtom), .sl 2 (a0.unequal.map cA2_cS), .c (.int .i64 a0.left), .mp 201 0, .clo (.func 64) [] [.ptr 202 0 0 0, .ptr 203 0 0 0, .ptr 204 0 0 0], .c (.bool a0.full)]]⟩), (201, mB kS vS a0.bind), (202, ⟨28, 4, true, [[.c (.string a0.rule.Head.Name), .sl 1 (a0.rule.Head.Args.map cS), .sl 2 (a0.rule.Body.map cGAtom), .sl 2 (a0.rule.Unequal.map cA2_cS)]]⟩), (203, ⟨103, 1, true, [[.ptr 200 0 0 0]]⟩), (204, ⟨102, 1, true, [[.mp 205 0]]⟩), (205, mBt 1000001 kS vA a0.heads)] [200, 201, 202, 203, 204, 205] (.tup []) [(200, ⟨107, 7, true, [[.pim [.sl 2 (r1.set.map cGAtom), .mpi (mE kF vR (formsM r1.set))] 0, .sl 2 (r1.body.map cGAtom), .sl 2 (r1.unequal.map cA2_cS), .c (.int .i64 r1.left), .mp 201 0, .clo (.func 64) [] [.ptr 202 0 0 0, .ptr 203 0 0 0, .ptr 204 0 0 0], .c (.bool r1.full)]]⟩), (201, mB kS vS r1.bind), (202, ⟨28, 4, true, [[.c (.string r1.rule.Head.Name), .sl 1 (r1.rule.Head.Args.map cS), .sl 2 (r1.rule.Body.map cGAtom), .sl 2 (r1.rule.Unequal.map cA2_cS)]]⟩), (203, ⟨103, 1, true, [[.ptr 200 0 0 0]]⟩), (204, ⟨102, 1, true, [[.mp 205 0]]⟩), (205, mBt 1000001 kS vA r1.heads)]
  := by
  intro g
  induction g with
  | zero => intros; rename_i h; rw [M_stratagem_datalog_matcher_from] at h; cases h
  | succ g ih =>
    intro a0 a1 r1 h; refine acallg_of 206 Tryd.func67 rfl (by decide) rfl (Nat.le_of_ble_eq_true rfl) rfl rfl ?_; intro _; rw [M_stratagem_datalog_matcher_from] at h; obtain ⟨o1, h, hK2⟩ := ob1_ok h; refine awp_cut (α := GMat) (fun v3 => mkG 106 206 [(0, .ptr 200 0 0 0), (1, .c (.int .i64 a1))] [(200, ⟨107, 7, true, [[.pim [.sl 2 (v3.set.map cGAtom), .mpi (mE kF vR (formsM v3.set))] 0, .sl 2 (v3.body.map cGAtom), .sl 2 (v3.unequal.map cA2_cS), .c (.int .i64 v3.left), .mp 201 0, .clo (.func 64) [] [.ptr 202 0 0 0, .ptr 203 0 0 0, .ptr 204 0 0 0], .c (.bool v3.full)]]⟩), (201, mB kS vS v3.bind), (202, ⟨28, 4, true, [[.c (.string v3.rule.Head.Name), .sl 1 (v3.rule.Head.Args.map cS), .sl 2 (v3.rule.Body.map cGAtom), .sl 2 (v3.rule.Unequal.map cA2_cS)]]⟩), (203, ⟨103, 1, true, [[.ptr 200 0 0 0]]⟩), (204, ⟨102, 1, true, [[.mp 205 0]]⟩), (205, mBt 1000001 kS vA v3.heads)]) (fun v => o1 = (.inl v)) ?_ ?_
    · refine aSR ?_; intro _; refine spf h (fun c3 h => ?_) (fun c3 h => ?_)
      · intro _; obtain ⟨z6, c7, u4, h⟩ := ob2_ok h; refine clg [(200, 200), (201, 201), (202, 202), (203, 203), (204, 204), (205, 205)] [] [] [(200, ⟨0, some ⟨107, 7, true, [[.pim [.sl 2 (c7.set.map cGAtom), .mpi (mE kF vR (formsM c7.set))] 0, .sl 2 (c7.body.map cGAtom), .sl 2 (c7.unequal.map cA2_cS), .c (.int .i64 c7.left), .mp 201 0, .clo (.func 64) [] [.ptr 202 0 0 0, .ptr 203 0 0 0, .ptr 204 0 0 0], .c (.bool c7.full)]]⟩⟩), (201, ⟨0, some (mB kS vS c7.bind)⟩), (202, ⟨0, some ⟨28, 4, true, [[.c (.string c7.rule.Head.Name), .sl 1 (c7.rule.Head.Args.map cS), .sl 2 (c7.rule.Body.map cGAtom), .sl 2 (c7.rule.Unequal.map cA2_cS)]]⟩⟩), (203, ⟨0, some ⟨103, 1, true, [[.ptr 200 0 0 0]]⟩⟩), (204, ⟨0, some ⟨102, 1, true, [[.mp 205 0]]⟩⟩), (205, ⟨0, some (mBt 1000001 kS vA c7.heads)⟩)] (.c (.bool z6)) rfl rfl (A_stratagem_datalog_matcher_differ a0 u4) ?_; intro _; refine dr ?_; refine aCd ?_; intro _; refine spl h (fun c5 h => ?_) (fun c5 h => ?_)
        · refine aRt ?_; have j6 := Option.some.inj h; subst j6; replace h := (osum_r hK2); intro _; obtain rfl := inj1 h; all_goals (refine Exists.intro [] (And.intro rfl (And.intro ?_ ?_))); all_goals (exact zg_0)
        · refine aSk ?_; refine ⟨c7, (Option.some.inj h).symm, ?_⟩; exact ca_0
      · intro _; refine dr ?_; refine aCd ?_; intro _; refine litT ?_; refine aRt ?_; have j7 := Option.some.inj h; subst j7; replace h := (osum_r hK2); intro _; obtain rfl := inj1 h; all_goals (refine Exists.intro [] (And.intro rfl (And.intro ?_ ?_))); all_goals (exact zg_0)
    · rintro v3 ho; have ho := ho.symm; subst ho; intro _; replace h := (osum_l hK2); refine aSq ?_; refine aSR ?_; intro _; refine dr ?_; refine aCd ?_; intro _; refine spl h (fun c8 h => ?_) (fun c8 h => ?_)
      · refine aSq ?_; refine aSR ?_; intro _; refine dr ?_; refine aCd ?_; intro _; refine spl h (fun c9 h => ?_) (fun c9 h => ?_)
        · refine aSR ?_; intro _; refine dr ?_; refine aRt ?_; intro _; obtain rfl := inj1 h; all_goals (refine Exists.intro [] (And.intro rfl (And.intro ?_ ?_))); all_goals (exact zg_0)
        · refine aSk ?_; refine aSR ?_; intro _; refine dr ?_; refine aSR ?_; intro _; obtain ⟨c8, u10, h⟩ := ob1_ok h; refine clgc [(200, 200), (201, 201), (202, 202), (203, 203), (204, 204), (205, 205)] [] [] [(200, ⟨0, some ⟨107, 7, true, [[.pim [.sl 2 (c8.set.map cGAtom), .mpi (mE kF vR (formsM c8.set))] 0, .sl 2 (c8.body.map cGAtom), .sl 2 (c8.unequal.map cA2_cS), .c (.int .i64 c8.left), .mp 201 0, .clo (.func 64) [] [.ptr 202 0 0 0, .ptr 203 0 0 0, .ptr 204 0 0 0], .c (.bool c8.full)]]⟩⟩), (201, ⟨0, some (mB kS vS c8.bind)⟩), (202, ⟨0, some ⟨28, 4, true, [[.c (.string c8.rule.Head.Name), .sl 1 (c8.rule.Head.Args.map cS), .sl 2 (c8.rule.Body.map cGAtom), .sl 2 (c8.rule.Unequal.map cA2_cS)]]⟩⟩), (203, ⟨0, some ⟨103, 1, true, [[.ptr 200 0 0 0]]⟩⟩), (204, ⟨0, some ⟨102, 1, true, [[.mp 205 0]]⟩⟩), (205, ⟨0, some (mBt 1000001 kS vA c8.heads)⟩)] (.tup []) rfl rfl rfl (A_datalog_round_1 ({ set := v3.set, body := v3.body, unequal := v3.unequal, left := (IntKind.i64.wrap (v3.left - 1)), bind := v3.bind, full := v3.full, rule := v3.rule, heads := v3.heads : GMat }) u10) ?_; intro _; refine dr ?_; refine aRt ?_; intro _; obtain rfl := inj1 h; all_goals (refine Exists.intro [] (And.intro rfl (And.intro ?_ ?_))); all_goals (exact zg_0)
      · refine aSk ?_; refine aSR ?_; intro _; obtain ⟨y9, w11, q12, h⟩ := ix_ok h; refine Exists.intro (cGAtom y9) (And.intro (map_at' w11) ?_); intro _; refine pr ?_; refine dr ?_; refine aSR ?_; intro _; refine ⟨_, lf_mpiget (q := (y9.Name, ((y9.Args.map cS).length : Int))) ([] : List GAtom) kF_key kF_inj kF_is rfl (Nat.le_of_ble_eq_true rfl) rfl kvF Tryd.underlying82 (tyTab_ok 25 _ rfl) vR_nil, ?_⟩; intro _; refine dr ?_; refine aBk ?_; refine awp_loop (α := Nat × GMat × Int) (fun x => mkG 106 206 [(0, .ptr 200 0 0 0), (1, .c (.int .i64 a1)), (4, .ptr 4 0 0 0), (71, .sl 2 (((getM (formsM v3.set) (y9.Name, ((y9.Args.map cS).length : Int))).getD []).map cGAtom)), (72, .c (.int .i64 ((((getM (formsM v3.set) (y9.Name, ((y9.Args.map cS).length : Int))).getD []).map cGAtom).length : Int))), (73, .c (.int .i64 x.2.2))] [(4, ⟨24, 2, true, [[.c (.string y9.Name), .sl 1 (y9.Args.map cS)]]⟩), (200, ⟨107, 7, true, [[.pim [.sl 2 (x.2.1.set.map cGAtom), .mpi (mE kF vR (formsM x.2.1.set))] 0, .sl 2 (x.2.1.body.map cGAtom), .sl 2 (x.2.1.unequal.map cA2_cS), .c (.int .i64 x.2.1.left), .mp 201 0, .clo (.func 64) [] [.ptr 202 0 0 0, .ptr 203 0 0 0, .ptr 204 0 0 0], .c (.bool x.2.1.full)]]⟩), (201, mB kS vS x.2.1.bind), (202, ⟨28, 4, true, [[.c (.string x.2.1.rule.Head.Name), .sl 1 (x.2.1.rule.Head.Args.map cS), .sl 2 (x.2.1.rule.Body.map cGAtom), .sl 2 (x.2.1.rule.Unequal.map cA2_cS)]]⟩), (203, ⟨103, 1, true, [[.ptr 200 0 0 0]]⟩), (204, ⟨102, 1, true, [[.mp 205 0]]⟩), (205, mBt 1000001 kS vA x.2.1.heads)]) (fun x => M_stratagem_datalog_matcher_from_L2 a1 (M_stratagem_datalog_matcher_from g) v3 y9 x.1 x.2.1 x.2.2 = some r1) (fun x => x.1) ((((((getM (formsM v3.set) (y9.Name, ((y9.Args.map cS).length : Int))).getD []).map cGAtom).length : Int)).toNat + 1, v3, 0) h ?_ ?_
        · exact ca_0
        · intro x13 h; intro _; obtain ⟨k148, m14, h⟩ := succ_of (f := fun n => M_stratagem_datalog_matcher_from_L2 a1 (M_stratagem_datalog_matcher_from g) v3 y9 n x13.2.1 x13.2.2) rfl h; replace h : M_stratagem_datalog_matcher_from_L2 a1 (M_stratagem_datalog_matcher_from g) v3 y9 (k148 + 1) x13.2.1 x13.2.2 = some r1 := h; rw [M_stratagem_datalog_matcher_from_L2] at h; refine aSR ?_; intro _; refine dr ?_; refine aSq ?_; refine aCd ?_; intro _; refine spl h (fun c15 h => ?_) (fun c15 h => ?_)
          · refine aSk ?_; obtain ⟨o16, h, hK17⟩ := ob1_ok h; refine awp_cut (α := GMat) (fun v181 => mkG 106 206 [(0, .ptr 200 0 0 0), (1, .c (.int .i64 a1)), (4, .ptr 4 0 0 0), (71, .sl 2 (((getM (formsM v3.set) (y9.Name, ((y9.Args.map cS).length : Int))).getD []).map cGAtom)), (72, .c (.int .i64 ((((getM (formsM v3.set) (y9.Name, ((y9.Args.map cS).length : Int))).getD []).map cGAtom).length : Int))), (73, .c (.int .i64 x13.2.2))] [(4, ⟨24, 2, true, [[.c (.string y9.Name), .sl 1 (y9.Args.map cS)]]⟩), (200, ⟨107, 7, true, [[.pim [.sl 2 (v181.set.map cGAtom), .mpi (mE kF vR (formsM v181.set))] 0, .sl 2 (v181.body.map cGAtom), .sl 2 (v181.unequal.map cA2_cS), .c (.int .i64 v181.left), .mp 201 0, .clo (.func 64) [] [.ptr 202 0 0 0, .ptr 203 0 0 0, .ptr 204 0 0 0], .c (.bool v181.full)]]⟩), (201, mB kS vS v181.bind), (202, ⟨28, 4, true, [[.c (.string v181.rule.Head.Name), .sl 1 (v181.rule.Head.Args.map cS), .sl 2 (v181.rule.Body.map cGAtom), .sl 2 (v181.rule.Unequal.map cA2_cS)]]⟩), (203, ⟨103, 1, true, [[.ptr 200 0 0 0]]⟩), (204, ⟨102, 1, true, [[.mp 205 0]]⟩), (205, mBt 1000001 kS vA v181.heads)]) (fun v => o16 = (.inl v)) ?_ ?_
            · refine aBk ?_; refine aSR ?_; intro _; obtain ⟨y184, w18, q19, h⟩ := ix_ok h; refine Exists.intro (cGAtom y184) (And.intro (map_at' w18) ?_); intro _; refine pr ?_; refine dr ?_; refine aSR ?_; intro _; obtain ⟨z185, z186, c187, u20, h⟩ := ob3_ok h; refine clg [(200, 200), (201, 201), (202, 202), (203, 203), (204, 204), (205, 205)] [] [] [(200, ⟨0, some ⟨107, 7, true, [[.pim [.sl 2 (c187.set.map cGAtom), .mpi (mE kF vR (formsM c187.set))] 0, .sl 2 (c187.body.map cGAtom), .sl 2 (c187.unequal.map cA2_cS), .c (.int .i64 c187.left), .mp 201 0, .clo (.func 64) [] [.ptr 202 0 0 0, .ptr 203 0 0 0, .ptr 204 0 0 0], .c (.bool c187.full)]]⟩⟩), (201, ⟨0, some (mB kS vS c187.bind)⟩), (202, ⟨0, some ⟨28, 4, true, [[.c (.string c187.rule.Head.Name), .sl 1 (c187.rule.Head.Args.map cS), .sl 2 (c187.rule.Body.map cGAtom), .sl 2 (c187.rule.Unequal.map cA2_cS)]]⟩⟩), (203, ⟨0, some ⟨103, 1, true, [[.ptr 200 0 0 0]]⟩⟩), (204, ⟨0, some ⟨102, 1, true, [[.mp 205 0]]⟩⟩), (205, ⟨0, some (mBt 1000001 kS vA c187.heads)⟩)] (.tup [.sl 1 (z185.map cS), .c (.bool z186)]) rfl rfl (A_stratagem_datalog_matcher_unify x13.2.1 y9 y184 u20) ?_; intro _; refine dr ?_; obtain ⟨o21, h, hK22⟩ := ob1_ok h; refine awp_cut (α := GMat) (fun v189 => mkG 106 206 [(0, .ptr 200 0 0 0), (1, .c (.int .i64 a1)), (4, .ptr 4 0 0 0), (7, .sl 1 (z185.map cS)), (71, .sl 2 (((getM (formsM v3.set) (y9.Name, ((y9.Args.map cS).length : Int))).getD []).map cGAtom)), (72, .c (.int .i64 ((((getM (formsM v3.set) (y9.Name, ((y9.Args.map cS).length : Int))).getD []).map cGAtom).length : Int))), (73, .c (.int .i64 x13.2.2))] [(4, ⟨24, 2, true, [[.c (.string y9.Name), .sl 1 (y9.Args.map cS)]]⟩), (200, ⟨107, 7, true, [[.pim [.sl 2 (v189.set.map cGAtom), .mpi (mE kF vR (formsM v189.set))] 0, .sl 2 (v189.body.map cGAtom), .sl 2 (v189.unequal.map cA2_cS), .c (.int .i64 v189.left), .mp 201 0, .clo (.func 64) [] [.ptr 202 0 0 0, .ptr 203 0 0 0, .ptr 204 0 0 0], .c (.bool v189.full)]]⟩), (201, mB kS vS v189.bind), (202, ⟨28, 4, true, [[.c (.string v189.rule.Head.Name), .sl 1 (v189.rule.Head.Args.map cS), .sl 2 (v189.rule.Body.map cGAtom), .sl 2 (v189.rule.Unequal.map cA2_cS)]]⟩), (203, ⟨103, 1, true, [[.ptr 200 0 0 0]]⟩), (204, ⟨102, 1, true, [[.mp 205 0]]⟩), (205, mBt 1000001 kS vA v189.heads)]) (fun v => o21 = v) ?_ ?_
              · refine aSR ?_; intro _; refine dr ?_; refine aCd ?_; intro _; refine spl h (fun c23 h => ?_) (fun c23 h => ?_)
                · refine aRg ?_; intro _; obtain ⟨c191, u24, h⟩ := ob1_ok h; refine clg [(200, 200), (201, 201), (202, 202), (203, 203), (204, 204), (205, 205)] [] [] [(200, ⟨0, some ⟨107, 7, true, [[.pim [.sl 2 (c191.set.map cGAtom), .mpi (mE kF vR (formsM c191.set))] 0, .sl 2 (c191.body.map cGAtom), .sl 2 (c191.unequal.map cA2_cS), .c (.int .i64 c191.left), .mp 201 0, .clo (.func 64) [] [.ptr 202 0 0 0, .ptr 203 0 0 0, .ptr 204 0 0 0], .c (.bool c191.full)]]⟩⟩), (201, ⟨0, some (mB kS vS c191.bind)⟩), (202, ⟨0, some ⟨28, 4, true, [[.c (.string c191.rule.Head.Name), .sl 1 (c191.rule.Head.Args.map cS), .sl 2 (c191.rule.Body.map cGAtom), .sl 2 (c191.rule.Unequal.map cA2_cS)]]⟩⟩), (203, ⟨0, some ⟨103, 1, true, [[.ptr 200 0 0 0]]⟩⟩), (204, ⟨0, some ⟨102, 1, true, [[.mp 205 0]]⟩⟩), (205, ⟨0, some (mBt 1000001 kS vA c191.heads)⟩)] (.tup []) rfl rfl (ih c187 (IntKind.i64.wrap (a1 + 1)) u24) ?_; intro _; refine dr ?_; refine ⟨c191, (Option.some.inj h).symm, ?_⟩; exact ca_0
                · refine aSk ?_; refine ⟨c187, (Option.some.inj h).symm, ?_⟩; exact ca_0
              · rintro v189 ho; have ho := ho.symm; subst ho; intro _; replace h := hK22; obtain ⟨o25, h, hK26⟩ := ob1_ok h; refine awp_cut (α := GMat) (fun v203 => mkG 106 206 [(0, .ptr 200 0 0 0), (1, .c (.int .i64 a1)), (4, .ptr 4 0 0 0), (71, .sl 2 (((getM (formsM v3.set) (y9.Name, ((y9.Args.map cS).length : Int))).getD []).map cGAtom)), (72, .c (.int .i64 ((((getM (formsM v3.set) (y9.Name, ((y9.Args.map cS).length : Int))).getD []).map cGAtom).length : Int))), (73, .c (.int .i64 x13.2.2))] [(4, ⟨24, 2, true, [[.c (.string y9.Name), .sl 1 (y9.Args.map cS)]]⟩), (200, ⟨107, 7, true, [[.pim [.sl 2 (v203.set.map cGAtom), .mpi (mE kF vR (formsM v203.set))] 0, .sl 2 (v203.body.map cGAtom), .sl 2 (v203.unequal.map cA2_cS), .c (.int .i64 v203.left), .mp 201 0, .clo (.func 64) [] [.ptr 202 0 0 0, .ptr 203 0 0 0, .ptr 204 0 0 0], .c (.bool v203.full)]]⟩), (201, mB kS vS v203.bind), (202, ⟨28, 4, true, [[.c (.string v203.rule.Head.Name), .sl 1 (v203.rule.Head.Args.map cS), .sl 2 (v203.rule.Body.map cGAtom), .sl 2 (v203.rule.Unequal.map cA2_cS)]]⟩), (203, ⟨103, 1, true, [[.ptr 200 0 0 0]]⟩), (204, ⟨102, 1, true, [[.mp 205 0]]⟩), (205, mBt 1000001 kS vA v203.heads)]) (fun v => o25 = v) ?_ ?_
                · refine aSR ?_; intro _; refine dr ?_; refine aBk ?_; refine awp_loop (α := Nat × GMat × Int) (fun x => mkG 106 206 [(0, .ptr 200 0 0 0), (1, .c (.int .i64 a1)), (4, .ptr 4 0 0 0), (71, .sl 2 (((getM (formsM v3.set) (y9.Name, ((y9.Args.map cS).length : Int))).getD []).map cGAtom)), (72, .c (.int .i64 ((((getM (formsM v3.set) (y9.Name, ((y9.Args.map cS).length : Int))).getD []).map cGAtom).length : Int))), (73, .c (.int .i64 x13.2.2)), (89, .sl 1 (z185.map cS)), (90, .c (.int .i64 ((z185.map cS).length : Int))), (91, .c (.int .i64 x.2.2))] [(4, ⟨24, 2, true, [[.c (.string y9.Name), .sl 1 (y9.Args.map cS)]]⟩), (200, ⟨107, 7, true, [[.pim [.sl 2 (x.2.1.set.map cGAtom), .mpi (mE kF vR (formsM x.2.1.set))] 0, .sl 2 (x.2.1.body.map cGAtom), .sl 2 (x.2.1.unequal.map cA2_cS), .c (.int .i64 x.2.1.left), .mp 201 0, .clo (.func 64) [] [.ptr 202 0 0 0, .ptr 203 0 0 0, .ptr 204 0 0 0], .c (.bool x.2.1.full)]]⟩), (201, mB kS vS x.2.1.bind), (202, ⟨28, 4, true, [[.c (.string x.2.1.rule.Head.Name), .sl 1 (x.2.1.rule.Head.Args.map cS), .sl 2 (x.2.1.rule.Body.map cGAtom), .sl 2 (x.2.1.rule.Unequal.map cA2_cS)]]⟩), (203, ⟨103, 1, true, [[.ptr 200 0 0 0]]⟩), (204, ⟨102, 1, true, [[.mp 205 0]]⟩), (205, mBt 1000001 kS vA x.2.1.heads)]) (fun x => M_stratagem_datalog_matcher_from_L1 z185 x.1 x.2.1 x.2.2 = some o25) (fun x => x.1) ((((z185.map cS).length : Int)).toNat + 1, v189, 0) h ?_ ?_
                  · exact ca_0
                  · intro x27 h; intro _; obtain ⟨k214, m28, h⟩ := succ_of (f := fun n => M_stratagem_datalog_matcher_from_L1 z185 n x27.2.1 x27.2.2) rfl h; replace h : M_stratagem_datalog_matcher_from_L1 z185 (k214 + 1) x27.2.1 x27.2.2 = some o25 := h; rw [M_stratagem_datalog_matcher_from_L1] at h; refine aSR ?_; intro _; refine dr ?_; refine aSq ?_; refine aCd ?_; intro _; refine spl h (fun c29 h => ?_) (fun c29 h => ?_)
                    · refine aSk ?_; refine aSq ?_; refine aBk ?_; refine aSR ?_; intro _; obtain ⟨y215, w30, q31, h⟩ := ix_ok h; refine Exists.intro (cS y215) (And.intro (map_at' w30) ?_); intro _; refine pr ?_; refine dr ?_; refine aRg ?_; intro _; refine ⟨_, lf_mapdel (q := y215) (kS_key Tryd.underlying9) kS_inj kS_is rfl rfl rfl rfl kvc Tryd.underlying104, ?_⟩; intro _; refine dr ?_; refine aRg ?_; intro _; refine dr ?_; refine ⟨(k214, { set := x27.2.1.set, body := x27.2.1.body, unequal := x27.2.1.unequal, left := x27.2.1.left, bind := (delM x27.2.1.bind y215), full := x27.2.1.full, rule := x27.2.1.rule, heads := x27.2.1.heads : GMat }, (IntKind.i64.wrap (x27.2.2 + 1))), h, ltS m28, ?_⟩; exact ca_0
                    · refine aEx ?_; refine ⟨x27.2.1, (Option.some.inj h).symm, ?_⟩; exact ca_0
                · rintro v203 ho; have ho := ho.symm; subst ho; intro _; replace h := hK26; refine aSR ?_; intro _; refine dr ?_; refine aCd ?_; intro _; refine spl h (fun c32 h => ?_) (fun c32 h => ?_)
                  · refine aRt ?_; have j33 := Option.some.inj h; subst j33; replace h := (osum_r hK17); intro _; obtain rfl := inj1 h; all_goals (refine Exists.intro [] (And.intro rfl (And.intro ?_ ?_))); all_goals (exact zg_0)
                  · refine aSk ?_; refine ⟨v203, (Option.some.inj h).symm, ?_⟩; exact ca_0
            · rintro v181 ho; have ho := ho.symm; subst ho; intro _; replace h := (osum_l hK17); refine aRg ?_; intro _; refine dr ?_; refine ⟨(k148, v181, (IntKind.i64.wrap (x13.2.2 + 1))), h, ltS m14, ?_⟩; exact ca_0
          · refine aEx ?_; intro _; obtain rfl := inj1 h; all_goals (refine Exists.intro [] (And.intro rfl (And.intro ?_ ?_))); all_goals (exact zg_0)
end Go.Proofs.YtflgpccacloadaaDoor.Am
/- Models printed by my decompiler, and the proofs that the code computes them. -/
namespace Go.Proofs.YtflgpccacloadaaDoor.Am
set_option maxHeartbeats 16000000
set_option maxRecDepth 100000
open Go.RowKit
theorem ci_XDMc {p K : Prop} (k : K) (h : p := by first | rfl | exact ⟨rfl, rfl⟩ | exact BW.mpf rfl rfl rfl FrI.h rfl | exact cloK3 rfl rfl rfl rfl rfl rfl rfl rfl rfl | exact CloK.bw (BW.fr (by assumption)) | exact BW.fr FrV.h | (refine BW.fr ?_; assumption) | (refine ⟨rfl, ?_⟩; (simp [cGAtom, cS, cF, take_len_map]; done)) | (refine RowK.same ?_ FrI.h; first | rfl | (simp [cGAtom, cS, cF, take_len_map]; done)) | (refine row_part1 ?_; (repeat (first | exact BWL.nil | exact bwll_nil | exact bw_c | exact BW.sl | exact BW.nil | exact bwll_same rfl FrI.h | refine BWL.cons ?_ ?_ | refine bwll_cons ?_ ?_ | (refine bw_own3 rfl rfl rfl FrI.h ?_ ?_ ?_) | exact BW.mpf rfl rfl rfl FrI.h rfl | exact cloK3 rfl rfl rfl rfl rfl rfl rfl rfl rfl | exact CloK.bw (BW.fr (by assumption)) | exact BW.fr FrV.h | exact BW.fr (by assumption) | refine bw_agg ?_ | refine bw_clo ?_ | refine bw_ptr rfl rfl rfl ?_ | (refine bw_own rfl rfl rfl ?_ FrI.h ?_ ?_) | assumption | omega | rfl | (rw [List.length_map, ← List.length_append]; assumption) | (refine bwll_same ?_ FrI.h; (simp [cGAtom, cS, cF] <;> fail)) | (rw [List.map_set]; refine bwll_set (by first | rfl | omega | simp) ?_ ?_) | refine bwll_set (by first | rfl | omega | simp) ?_ ?_ | (rw [List.map_replicate]; refine bwll_rep ?_) | refine bwll_rep ?_ | (rw [List.map_append]; refine bwll_append ?_ ?_) | refine bwll_append ?_ ?_ | (simp [cGAtom, cS, cF, take_len_map] <;> fail) | (rw [List.drop_zero, List.take_of_length_le] <;> first | rfl | (simp [cGAtom, cS, cF] <;> fail)) | (simp; omega) | (simp only [List.length_map, List.length_append, List.drop_zero, List.length_cons, List.length_nil, Nat.zero_add, Nat.add_zero] at *; omega))); done) | ((repeat (first | exact BWL.nil | exact bwll_nil | exact bw_c | exact BW.sl | exact BW.nil | exact bwll_same rfl FrI.h | refine BWL.cons ?_ ?_ | refine bwll_cons ?_ ?_ | (refine bw_own3 rfl rfl rfl FrI.h ?_ ?_ ?_) | exact BW.mpf rfl rfl rfl FrI.h rfl | exact cloK3 rfl rfl rfl rfl rfl rfl rfl rfl rfl | exact CloK.bw (BW.fr (by assumption)) | exact BW.fr FrV.h | exact BW.fr (by assumption) | refine bw_agg ?_ | refine bw_clo ?_ | refine bw_ptr rfl rfl rfl ?_ | (refine bw_own rfl rfl rfl ?_ FrI.h ?_ ?_) | assumption | omega | rfl | (rw [List.length_map, ← List.length_append]; assumption) | (refine bwll_same ?_ FrI.h; (simp [cGAtom, cS, cF] <;> fail)) | (rw [List.map_set]; refine bwll_set (by first | rfl | omega | simp) ?_ ?_) | refine bwll_set (by first | rfl | omega | simp) ?_ ?_ | (rw [List.map_replicate]; refine bwll_rep ?_) | refine bwll_rep ?_ | (rw [List.map_append]; refine bwll_append ?_ ?_) | refine bwll_append ?_ ?_ | (simp [cGAtom, cS, cF, take_len_map] <;> fail) | (rw [List.drop_zero, List.take_of_length_le] <;> first | rfl | (simp [cGAtom, cS, cF] <;> fail)) | (simp; omega) | (simp only [List.length_map, List.length_append, List.drop_zero, List.length_cons, List.length_nil, Nat.zero_add, Nat.add_zero] at *; omega))); done) | (simp [cGAtom, cS, cF, take_len_map]; done)) : p ∧ K := ⟨h, k⟩
theorem ca_XDMc {P : Prop} (h : P := by repeat (first | exact True.intro | refine ci_XDMc ?_)) : P := h
theorem pr_XDMc {p K : Prop} (k : K) (h : p := by first | assumption | exact Int.natCast_nonneg _ | exact Nat.le_refl _ | exact Nat.zero_le _ | omega | (simp; done) | (simp; omega)) : p ∧ K := ⟨h, k⟩
theorem dr_XDMc {b : Bool} {p K : Prop} (k : K) (h : b = true → p := by intro h; first | (cases h; done) | exact ⟨by kernel_rfl, by kernel_rfl⟩) : (b = true → p) ∧ K := ⟨h, k⟩
theorem cl_XDMc {C : Cx} {n : Nat} {o : Oper} {τ : Nat → AV} {η : Nat → Ent} {f : FuncId} {os : Array Operand} {ats : Array TypeId} {r : AV} {args : List AV} {K : Foot → Prop} (ho : o.op = .call ⟨.value (.func f), os, ats⟩) (hc : ACall C f args r) (k : K ⟨r, [], []⟩)
    (hd : InB n o.dst := by exact Nat.le_of_ble_eq_true rfl) (hargs : os.toList.map (evA τ) = args := by first | rfl | (simp [cGAtom, cS, cF]; done) | (repeat (first | exact rfl | refine cons_eq ?_ ?_ | exact sl_dt rfl))) (hfr : frs args := by repeat (first | exact trivial | exact fr1_eA _ | exact fr0_eA _ | exact fr1_fr (by assumption) | exact FrV.h | exact fr1_fr FrV.h | refine And.intro ?_ ?_)) (hr : fr1 r := by repeat (first | exact trivial | exact fr1_eA _ | exact fr0_eA _ | exact fr1_fr (by assumption) | exact FrV.h | exact fr1_fr FrV.h | refine And.intro ?_ ?_)) : ∃ f : Foot, LF C n o τ η f ∧ K f := ⟨_, lf_call ho hd hargs hc hfr hr, k⟩
theorem clc_XDMc {C : Cx} {n : Nat} {o : Oper} {τ : Nat → AV} {η : Nat → Ent} {c : Operand} {os : Array Operand} {ats : Array TypeId} {r F : AV} {xs : List AV} {K : Foot → Prop} (ho : o.op = .call ⟨.value c, os, ats⟩) (hc : CCl C F xs r) (hfF : Fr F) (k : K ⟨r, [], []⟩)
    (hd : InB n o.dst := by exact Nat.le_of_ble_eq_true rfl) (hF : evA τ c = F := by rfl) (hargs : os.toList.map (evA τ) = xs := by first | rfl | (simp [cGAtom, cS, cF]; done) | (repeat (first | exact rfl | refine cons_eq ?_ ?_ | exact sl_dt rfl))) (hfr : frs xs := by repeat (first | exact trivial | exact fr1_eA _ | exact fr0_eA _ | exact fr1_fr (by assumption) | exact FrV.h | exact fr1_fr FrV.h | refine And.intro ?_ ?_)) (hr : fr1 r := by repeat (first | exact trivial | exact fr1_eA _ | exact fr0_eA _ | exact fr1_fr (by assumption) | exact FrV.h | exact fr1_fr FrV.h | refine And.intro ?_ ?_)) : ∃ f : Foot, LF C n o τ η f ∧ K f := ⟨_, lf_clo ho hd hF hargs hc hfF hfr hr, k⟩
def M_s_CompactFunc_Atom_L1 (a0 : List GAtom) (a1 : GAtom → GAtom → Option Bool) (v206 : Int) : Nat → Int → Int → (List GAtom) → Option (Int × (List GAtom))
  | 0, _, _, _ => none
  | k304 + 1, v301, v302, v303 =>
    sel (decide (v302 < ((a0.length - v206.toNat : Nat) : Int)))
     (ixn v303 (v206.toNat + (v302).toNat) (fun y305 =>
       ixn v303 (v206.toNat + ((IntKind.i64.wrap (v302 - 1))).toNat) (fun y306 =>
        ob1 (a1 y305 y306) (fun z307 =>
         grd (0 ≤ v302) (grd (v302 < ((a0.length - v206.toNat : Nat) : Int)) (grd (0 ≤ (IntKind.i64.wrap (v302 - 1))) (grd ((IntKind.i64.wrap (v302 - 1)) < ((a0.length - v206.toNat : Nat) : Int)) (sel (!z307)
          (ixn v303 (v206.toNat + (v302).toNat) (fun y308 =>
            ixn v303 ((v301).toNat) (fun _ =>
             grd (0 ≤ v301) (grd (v301 < ((v303.length : Nat) : Int)) (M_s_CompactFunc_Atom_L1 a0 a1 v206 k304 (IntKind.i64.wrap (v301 + 1)) (IntKind.i64.wrap (v302 + 1)) (v303.set ((v301).toNat) y308))))))
          (M_s_CompactFunc_Atom_L1 a0 a1 v206 k304 v301 (IntKind.i64.wrap (v302 + 1)) v303)))))))))
     (some (v301, v303))
def M_s_CompactFunc_Atom_L2 (a0 : List GAtom) (a1 : GAtom → GAtom → Option Bool) (g : Nat) : Nat → Int → Option (List GAtom)
  | 0, _ => none
  | k207 + 1, v206 =>
    sel (decide (v206 < ((a0.length : Nat) : Int)))
     (ob1 (ixn a0 ((v206).toNat) (fun y260 =>
        ixn a0 (((IntKind.i64.wrap (v206 - 1))).toNat) (fun y261 =>
         ob1 (a1 y260 y261) (fun z262 =>
          grd (0 ≤ v206) (grd (v206 < ((a0.length : Nat) : Int)) (grd (0 ≤ (IntKind.i64.wrap (v206 - 1))) (grd ((IntKind.i64.wrap (v206 - 1)) < ((a0.length : Nat) : Int)) (sel z262
           (grd (v206.toNat ≤ a0.length) (ob1 (M_s_CompactFunc_Atom_L1 a0 a1 v206 g v206 1 a0 : Option (Int × (List GAtom)))
             (fun (v285, v286) => grd (0 < v286.length - v285.toNat) (grd (v285.toNat ≤ v286.length) (grd (0 ≤ v285) (some (.inr (v286.take v285.toNat))))))))
           (some (.inl ()))))))))) : Option (Unit ⊕ (List GAtom)))
       (osum
       (fun _ => M_s_CompactFunc_Atom_L2 a0 a1 g k207 (IntKind.i64.wrap (v206 + 1)))
       (fun r258 => some r258)))
     (some a0)
def M_s_CompactFunc_Atom (g : Nat) (a0 : List GAtom) (a1 : GAtom → GAtom → Option Bool) : Option (List GAtom) :=
  sel (decide (((a0.length : Nat) : Int) < 2))
   (some a0)
   (M_s_CompactFunc_Atom_L2 a0 a1 g g 1)
theorem A_s_CompactFunc_Atom (g : Nat) (a0 : List GAtom) (a1 : GAtom → GAtom → Option Bool) (Fa1 : AV) (hFa1 : Fr Fa1) (ea1 : ∃ f fs cap, Fa1 = .clo (.func f) fs cap) (ha1 : ∀ (x0 : GAtom) (x1 : GAtom) (y0 : Bool), a1 x0 x1 = some y0 → CCl cx Fa1 [.agg [.c (.string x0.Name), .sl 1 (x0.Args.map cS)], .agg [.c (.string x1.Name), .sl 1 (x1.Args.map cS)]] (.c (.bool y0))) {r1 : List GAtom} (h : M_s_CompactFunc_Atom g a0 a1 = some r1) : ACallG cx 62 [.own 0 0 0 a0.length, Fa1] [(0, ⟨24, 2, false, a0.map cGAtom⟩)] [] (.own 0 0 0 r1.length) [(0, ⟨24, 2, false, r1.map cGAtom⟩)] := by
  obtain ⟨fa1, sa1, qa1, rfl⟩ := ea1; refine acallg_of 68 Tryd.func62 rfl (by decide) rfl (Nat.le_of_ble_eq_true rfl) rfl rfl ?_; intro _; unfold M_s_CompactFunc_Atom at h; refine aSR ?_; intro _; refine dr_XDMc ?_; refine aSq ?_; refine aSR ?_; intro _; refine dr_XDMc ?_; refine aCd ?_; intro _; refine spl h (fun c1 h => ?_) (fun c1 h => ?_)
  · refine aSR ?_; intro _; refine dr_XDMc ?_; refine aRt ?_; intro _; obtain rfl := inj1 h; all_goals (refine Exists.intro [(0, 0)] (And.intro rfl (And.intro ?_ ?_))); all_goals (repeat (first | exact True.intro | exact gb_nil rfl rfl | exact gb_take rfl ⟨rfl, rfl, rfl⟩ List.map_take FrI.h | exact gb_take rfl ⟨rfl, rfl, rfl⟩ (takeC (by omega)) FrI.h | exact gb_take rfl ⟨rfl, rfl, rfl⟩ (takeC0 (by omega)) FrI.h |  refine gb_some ⟨rfl, rfl, rfl⟩ ?_ | refine And.intro ?_ ?_ | refine gw_ren rfl rfl rfl rfl rfl ?_ | exact gw_oren rfl rfl rfl rfl rfl | exact gw_opren rfl rfl rfl rfl rfl | exact gw_onil rfl rfl | exact gw_mren rfl rfl rfl rfl | refine gw_pren rfl rfl rfl rfl rfl | exact gw_thaw rfl rfl rfl | refine gw_tup ?_ | refine gw_ifc ?_ | exact GWL.nil | exact gwll_nil | exact gw_c | exact GW.sl | exact GW.nil | exact gwll_same rfl FrI.h | refine GWL.cons ?_ ?_ | refine gwll_cons ?_ ?_ | (refine gw_own3 rfl rfl rfl FrI.h ?_ ?_ ?_) | exact GW.mpf rfl rfl rfl FrI.h rfl | refine CloK.bw ?_ | exact GW.fr FrV.h | exact GW.fr (by assumption) | refine gw_agg ?_ | refine gw_clo ?_ | refine gw_ptr rfl rfl rfl ?_ | (refine gw_own rfl rfl rfl ?_ FrI.h ?_ ?_) | assumption | omega | rfl | (rw [List.length_map, ← List.length_append]; assumption) | (refine gwll_same ?_ FrI.h; (simp [cGAtom, cS, cF] <;> fail)) | (rw [List.map_set]; refine gwll_set (by first | rfl | omega | simp) ?_ ?_) | refine gwll_set (by first | rfl | omega | simp) ?_ ?_ | (rw [List.map_replicate]; refine gwll_rep ?_) | refine gwll_rep ?_ | (rw [List.map_append]; refine gwll_append ?_ ?_) | refine gwll_append ?_ ?_ | (simp [cGAtom, cS, cF, take_len_map] <;> fail) | (rw [List.drop_zero, List.take_of_length_le] <;> first | rfl | (simp [cGAtom, cS, cF] <;> fail)) | (simp; omega) | (simp only [List.length_map, List.length_append, List.drop_zero, List.length_cons, List.length_nil, Nat.zero_add, Nat.add_zero] at *; omega)))
  · refine aSk ?_; refine aSq ?_; refine aSR ?_; intro _; refine dr_XDMc ?_; refine aBk ?_; refine awp_loop (α := Nat × Int) (fun x => mkG 66 68 [(0, .own 0 0 0 a0.length), (1, .clo (.func fa1) sa1 qa1), (5, .c (.int .i64 x.2))] [(0, ⟨24, 2, false, a0.map cGAtom⟩)]) (fun x => M_s_CompactFunc_Atom_L2 a0 a1 g x.1 x.2 = some r1) (fun x => x.1) (g, 1) h ?_ ?_
    · exact ca_XDMc
    · intro x2 h; intro _; obtain ⟨k207, m3, h⟩ := succ_of (f := fun n => M_s_CompactFunc_Atom_L2 a0 a1 g n x2.2) rfl h; replace h : M_s_CompactFunc_Atom_L2 a0 a1 g (k207 + 1) x2.2 = some r1 := h; rw [M_s_CompactFunc_Atom_L2] at h; refine aSq ?_; refine aSR ?_; intro _; refine dr_XDMc ?_; refine aCd ?_; intro _; refine spl h (fun c4 h => ?_) (fun c4 h => ?_)
      · refine aSk ?_; obtain ⟨o5, h, hK6⟩ := ob1_ok h; refine awp_cut (α := Unit) (fun _ => mkG 66 68 [(0, .own 0 0 0 a0.length), (1, .clo (.func fa1) sa1 qa1), (5, .c (.int .i64 x2.2))] [(0, ⟨24, 2, false, a0.map cGAtom⟩)]) (fun v => o5 = (.inl v)) ?_ ?_
        · refine aBk ?_; refine aSR ?_; intro _; obtain ⟨y260, w7, h⟩ := ixn_ok h; refine Exists.intro (cGAtom y260) (And.intro (by first | exact map_at' w7 | (have w := map_at' (f := cGAtom) w7; simpa [cGAtom, Value.cells] using w)) ?_); intro _; obtain ⟨y261, w8, h⟩ := ixn_ok h; refine Exists.intro (cGAtom y261) (And.intro (by first | exact map_at' w8 | (have w := map_at' (f := cGAtom) w8; simpa [cGAtom, Value.cells] using w)) ?_); intro _; obtain ⟨z262, u9, h⟩ := ob1_ok h; refine clc_XDMc rfl (ha1 _ _ _ u9) hFa1 ?_; intro _; obtain ⟨q10, h⟩ := grd_ok h; obtain ⟨q11, h⟩ := grd_ok h; obtain ⟨q12, h⟩ := grd_ok h; obtain ⟨q13, h⟩ := grd_ok h; refine pr_XDMc ?_; refine pr_XDMc ?_; refine pr_XDMc ?_; refine pr_XDMc ?_; refine dr_XDMc ?_; refine aCd ?_; intro _; refine spl h (fun c14 h => ?_) (fun c14 h => ?_)
          · refine aSR ?_; intro _; obtain ⟨q15, h⟩ := grd_ok h; refine pr_XDMc ?_; refine pr_XDMc ?_; refine pr_XDMc ?_; refine dr_XDMc ?_; obtain ⟨o16, h, hK17⟩ := ob1_ok h; refine awp_cut (α := Int × (List GAtom)) (fun (v285, v286) => mkG 66 68 [(0, .own 0 0 0 v286.length), (5, .c (.int .i64 v285))] [(0, ⟨24, 2, false, v286.map cGAtom⟩)]) (fun v => o16 = v) ?_ ?_
            · refine aSR ?_; intro _; refine dr_XDMc ?_; refine aBk ?_; refine awp_loop (α := Nat × Int × Int × (List GAtom)) (fun x => mkG 66 68 [(0, .own 0 0 0 x.2.2.2.length), (1, .clo (.func fa1) sa1 qa1), (5, .c (.int .i64 x.2.1)), (6, .own 0 0 x2.2.toNat (a0.length - x2.2.toNat)), (7, .c (.int .i64 x.2.2.1))] [(0, ⟨24, 2, false, x.2.2.2.map cGAtom⟩)]) (fun x => M_s_CompactFunc_Atom_L1 a0 a1 x2.2 x.1 x.2.1 x.2.2.1 x.2.2.2 = some o16) (fun x => x.1) (g, x2.2, 1, a0) h ?_ ?_
              · exact ca_XDMc
              · intro x18 h; intro _; obtain ⟨k304, m19, h⟩ := succ_of (f := fun n => M_s_CompactFunc_Atom_L1 a0 a1 x2.2 n x18.2.1 x18.2.2.1 x18.2.2.2) rfl h; replace h : M_s_CompactFunc_Atom_L1 a0 a1 x2.2 (k304 + 1) x18.2.1 x18.2.2.1 x18.2.2.2 = some o16 := h; rw [M_s_CompactFunc_Atom_L1] at h; refine aSq ?_; refine aSR ?_; intro _; refine dr_XDMc ?_; refine aCd ?_; intro _; refine spl h (fun c20 h => ?_) (fun c20 h => ?_)
                · refine aSk ?_; refine aSq ?_; refine aBk ?_; refine aSR ?_; intro _; obtain ⟨y305, w21, h⟩ := ixn_ok h; refine Exists.intro (cGAtom y305) (And.intro (by first | exact map_at' w21 | (have w := map_at' (f := cGAtom) w21; simpa [cGAtom, Value.cells] using w)) ?_); intro _; obtain ⟨y306, w22, h⟩ := ixn_ok h; refine Exists.intro (cGAtom y306) (And.intro (by first | exact map_at' w22 | (have w := map_at' (f := cGAtom) w22; simpa [cGAtom, Value.cells] using w)) ?_); intro _; obtain ⟨z307, u23, h⟩ := ob1_ok h; refine clc_XDMc rfl (ha1 _ _ _ u23) hFa1 ?_; intro _; obtain ⟨q24, h⟩ := grd_ok h; obtain ⟨q25, h⟩ := grd_ok h; obtain ⟨q26, h⟩ := grd_ok h; obtain ⟨q27, h⟩ := grd_ok h; refine pr_XDMc ?_; refine pr_XDMc ?_; refine pr_XDMc ?_; refine pr_XDMc ?_; refine dr_XDMc ?_; refine aCd ?_; intro _; refine spl h (fun c28 h => ?_) (fun c28 h => ?_)
                  · refine aSR ?_; intro _; obtain ⟨y308, w29, h⟩ := ixn_ok h; refine Exists.intro (cGAtom y308) (And.intro (by first | exact map_at' w29 | (have w := map_at' (f := cGAtom) w29; simpa [cGAtom, Value.cells] using w)) ?_); intro _; obtain ⟨y309, w30, h⟩ := ixn_ok h; refine Exists.intro (cGAtom y309) (And.intro (by first | exact map_at' w30 | (have w := map_at' (f := cGAtom) w30; simpa [cGAtom, Value.cells] using w)) ?_); intro _; obtain ⟨q31, h⟩ := grd_ok h; obtain ⟨q32, h⟩ := grd_ok h; refine pr_XDMc ?_; refine pr_XDMc ?_; refine pr_XDMc ?_; refine pr_XDMc ?_; refine dr_XDMc ?_; refine aRg ?_; intro _; refine dr_XDMc ?_; refine aRg ?_; intro _; refine dr_XDMc ?_; refine ⟨(k304, (IntKind.i64.wrap (x18.2.1 + 1)), (IntKind.i64.wrap (x18.2.2.1 + 1)), (x18.2.2.2.set ((x18.2.1).toNat) y308)), h, ltS m19, ?_⟩; exact ca_XDMc
                  · refine aSk ?_; refine aRg ?_; intro _; refine dr_XDMc ?_; refine ⟨(k304, x18.2.1, (IntKind.i64.wrap (x18.2.2.1 + 1)), x18.2.2.2), h, ltS m19, ?_⟩; exact ca_XDMc
                · refine aEx ?_; refine ⟨(x18.2.1, x18.2.2.2), (Option.some.inj h).symm, ?_⟩; exact ca_XDMc
            · rintro ⟨v285, v286⟩ ho; have ho := ho.symm; subst ho; intro _; replace h := hK17; refine aSR ?_; intro _; obtain ⟨q33, h⟩ := grd_ok h; obtain ⟨q34, h⟩ := grd_ok h; refine ⟨_, lf_clear rfl rfl rfl rfl (tyTab_ok 25 _ rfl) rfl (tyTab_ok 24 _ rfl) rfl (Nat.le_of_ble_eq_true rfl) (by decide) (by omega) (by simp; omega), ?_⟩; intro _; obtain ⟨q35, h⟩ := grd_ok h; refine pr_XDMc ?_; refine pr_XDMc ?_; refine pr_XDMc ?_; refine dr_XDMc ?_; refine aSR ?_; intro _; refine pr_XDMc ?_; refine pr_XDMc ?_; refine pr_XDMc ?_; refine dr_XDMc ?_; refine aRt ?_; have j36 := Option.some.inj h; subst j36; replace h := (osum_r hK6); intro _; obtain rfl := inj1 h; all_goals (refine Exists.intro [(0, 0)] (And.intro rfl (And.intro ?_ ?_))); all_goals (repeat (first | exact True.intro | exact gb_nil rfl rfl | exact gb_take rfl ⟨rfl, rfl, rfl⟩ List.map_take FrI.h | exact gb_take rfl ⟨rfl, rfl, rfl⟩ (takeC (by omega)) FrI.h | exact gb_take rfl ⟨rfl, rfl, rfl⟩ (takeC0 (by omega)) FrI.h |  refine gb_some ⟨rfl, rfl, rfl⟩ ?_ | refine And.intro ?_ ?_ | refine gw_ren rfl rfl rfl rfl rfl ?_ | exact gw_oren rfl rfl rfl rfl rfl | exact gw_opren rfl rfl rfl rfl rfl | exact gw_onil rfl rfl | exact gw_mren rfl rfl rfl rfl | refine gw_pren rfl rfl rfl rfl rfl | exact gw_thaw rfl rfl rfl | refine gw_tup ?_ | refine gw_ifc ?_ | exact GWL.nil | exact gwll_nil | exact gw_c | exact GW.sl | exact GW.nil | exact gwll_same rfl FrI.h | refine GWL.cons ?_ ?_ | refine gwll_cons ?_ ?_ | (refine gw_own3 rfl rfl rfl FrI.h ?_ ?_ ?_) | exact GW.mpf rfl rfl rfl FrI.h rfl | refine CloK.bw ?_ | exact GW.fr FrV.h | exact GW.fr (by assumption) | refine gw_agg ?_ | refine gw_clo ?_ | refine gw_ptr rfl rfl rfl ?_ | (refine gw_own rfl rfl rfl ?_ FrI.h ?_ ?_) | assumption | omega | rfl | (rw [List.length_map, ← List.length_append]; assumption) | (refine gwll_same ?_ FrI.h; (simp [cGAtom, cS, cF] <;> fail)) | (rw [List.map_set]; refine gwll_set (by first | rfl | omega | simp) ?_ ?_) | refine gwll_set (by first | rfl | omega | simp) ?_ ?_ | (rw [List.map_replicate]; refine gwll_rep ?_) | refine gwll_rep ?_ | (rw [List.map_append]; refine gwll_append ?_ ?_) | refine gwll_append ?_ ?_ | (simp [cGAtom, cS, cF, take_len_map] <;> fail) | (rw [List.drop_zero, List.take_of_length_le] <;> first | rfl | (simp [cGAtom, cS, cF] <;> fail)) | (simp; omega) | (simp only [List.length_map, List.length_append, List.drop_zero, List.length_cons, List.length_nil, Nat.zero_add, Nat.add_zero] at *; omega)))
          · refine aSk ?_; refine ⟨(), (Option.some.inj h).symm, ?_⟩; exact ca_XDMc
        · rintro _ ho; have ho := ho.symm; subst ho; intro _; replace h := (osum_l hK6); refine aRg ?_; intro _; refine dr_XDMc ?_; refine ⟨(k207, (IntKind.i64.wrap (x2.2 + 1))), h, ltS m3, ?_⟩; exact ca_XDMc
      · refine aEx ?_; refine aSR ?_; intro _; refine dr_XDMc ?_; refine aRt ?_; intro _; obtain rfl := inj1 h; all_goals (refine Exists.intro [(0, 0)] (And.intro rfl (And.intro ?_ ?_))); all_goals (repeat (first | exact True.intro | exact gb_nil rfl rfl | exact gb_take rfl ⟨rfl, rfl, rfl⟩ List.map_take FrI.h | exact gb_take rfl ⟨rfl, rfl, rfl⟩ (takeC (by omega)) FrI.h | exact gb_take rfl ⟨rfl, rfl, rfl⟩ (takeC0 (by omega)) FrI.h |  refine gb_some ⟨rfl, rfl, rfl⟩ ?_ | refine And.intro ?_ ?_ | refine gw_ren rfl rfl rfl rfl rfl ?_ | exact gw_oren rfl rfl rfl rfl rfl | exact gw_opren rfl rfl rfl rfl rfl | exact gw_onil rfl rfl | exact gw_mren rfl rfl rfl rfl | refine gw_pren rfl rfl rfl rfl rfl | exact gw_thaw rfl rfl rfl | refine gw_tup ?_ | refine gw_ifc ?_ | exact GWL.nil | exact gwll_nil | exact gw_c | exact GW.sl | exact GW.nil | exact gwll_same rfl FrI.h | refine GWL.cons ?_ ?_ | refine gwll_cons ?_ ?_ | (refine gw_own3 rfl rfl rfl FrI.h ?_ ?_ ?_) | exact GW.mpf rfl rfl rfl FrI.h rfl | refine CloK.bw ?_ | exact GW.fr FrV.h | exact GW.fr (by assumption) | refine gw_agg ?_ | refine gw_clo ?_ | refine gw_ptr rfl rfl rfl ?_ | (refine gw_own rfl rfl rfl ?_ FrI.h ?_ ?_) | assumption | omega | rfl | (rw [List.length_map, ← List.length_append]; assumption) | (refine gwll_same ?_ FrI.h; (simp [cGAtom, cS, cF] <;> fail)) | (rw [List.map_set]; refine gwll_set (by first | rfl | omega | simp) ?_ ?_) | refine gwll_set (by first | rfl | omega | simp) ?_ ?_ | (rw [List.map_replicate]; refine gwll_rep ?_) | refine gwll_rep ?_ | (rw [List.map_append]; refine gwll_append ?_ ?_) | refine gwll_append ?_ ?_ | (simp [cGAtom, cS, cF, take_len_map] <;> fail) | (rw [List.drop_zero, List.take_of_length_le] <;> first | rfl | (simp [cGAtom, cS, cF] <;> fail)) | (simp; omega) | (simp only [List.length_map, List.length_append, List.drop_zero, List.length_cons, List.length_nil, Nat.zero_add, Nat.add_zero] at *; omega)))
def M_s_Equal_string_L1 (a0 : List ByteArray) (a1 : List ByteArray) : Nat → Int → Option (Bool)
  | 0, _ => none
  | k7 + 1, v6 =>
    sel (decide (v6 < ((a0.map cS).length : Int)))
     (ix a0 v6 (fun y8 =>
       ix a1 v6 (fun y9 =>
        sel (!(y8.toList == y9.toList))
         (some false)
         (M_s_Equal_string_L1 a0 a1 k7 (IntKind.i64.wrap (v6 + 1))))))
     (some true)
def M_s_Equal_string (a0 : List ByteArray) (a1 : List ByteArray) : Option (Bool) :=
  sel (((a0.map cS).length : Int) != ((a1.map cS).length : Int))
   (some false)
   (M_s_Equal_string_L1 a0 a1 ((((a0.map cS).length : Int)).toNat + 1) 0)
theorem A_s_Equal_string (a0 : List ByteArray) (a1 : List ByteArray) {r1 : Bool} (h : M_s_Equal_string a0 a1 = some r1) : ACall cx 78 [.sl 1 (a0.map cS), .sl 1 (a1.map cS)] (.c (.bool r1)) := by
  refine aOf Tryd.func78 rfl (by decide) rfl (Nat.le_of_ble_eq_true rfl) ?_; intro _; unfold M_s_Equal_string at h; refine aSR ?_; intro _; refine dr_XDMc ?_; refine aSq ?_; refine aSR ?_; intro _; refine dr_XDMc ?_; refine aCd ?_; intro _; refine spl h (fun c1 h => ?_) (fun c1 h => ?_)
  · refine aSR ?_; intro _; refine dr_XDMc ?_; refine aRt ?_; intro _; obtain rfl := inj1 h; exact ca_XDMc
  · refine aSk ?_; refine aSq ?_; refine aSR ?_; intro _; refine dr_XDMc ?_; refine aBk ?_; refine awp_loop (α := Nat × Int) (fun x => mkS 26 [(0, .sl 1 (a0.map cS)), (1, .sl 1 (a1.map cS)), (12, .c (.int .i64 ((a0.map cS).length : Int))), (13, .c (.int .i64 x.2))] []) (fun x => M_s_Equal_string_L1 a0 a1 x.1 x.2 = some r1) (fun x => x.1) ((((a0.map cS).length : Int)).toNat + 1, 0) h ?_ ?_
    · exact ca_XDMc
    · intro x2 h; intro _; obtain ⟨k7, m3, h⟩ := succ_of (f := fun n => M_s_Equal_string_L1 a0 a1 n x2.2) rfl h; replace h : M_s_Equal_string_L1 a0 a1 (k7 + 1) x2.2 = some r1 := h; rw [M_s_Equal_string_L1] at h; refine aSR ?_; intro _; refine dr_XDMc ?_; refine aSq ?_; refine aCd ?_; intro _; refine spl h (fun c4 h => ?_) (fun c4 h => ?_)
      · refine aSk ?_; refine aSq ?_; refine aBk ?_; refine aSR ?_; intro _; refine dr_XDMc ?_; refine aSR ?_; intro _; obtain ⟨y8, w5, q6, h⟩ := ix_ok h; refine Exists.intro (cS y8) (And.intro (map_at' w5) ?_); intro _; obtain ⟨y9, w7, q8, h⟩ := ix_ok h; refine Exists.intro (cS y9) (And.intro (map_at' w7) ?_); intro _; refine pr_XDMc ?_; refine pr_XDMc ?_; refine dr_XDMc ?_; refine aCd ?_; intro _; refine spl h (fun c9 h => ?_) (fun c9 h => ?_)
        · refine aSR ?_; intro _; refine dr_XDMc ?_; refine aRt ?_; intro _; obtain rfl := inj1 h; exact ca_XDMc
        · refine aSk ?_; refine aRg ?_; intro _; refine dr_XDMc ?_; refine ⟨(k7, (IntKind.i64.wrap (x2.2 + 1))), h, ltS m3, ?_⟩; exact ca_XDMc
      · refine aEx ?_; refine aSR ?_; intro _; refine dr_XDMc ?_; refine aRt ?_; intro _; obtain rfl := inj1 h; exact ca_XDMc
def M_datalog_sameAtom (a0 : GAtom) (a1 : GAtom) : Option (Bool) :=
  sel (a0.Name.toList == a1.Name.toList)
   (ob1 (M_s_Equal_string a0.Args a1.Args) (fun z1 =>
     some z1))
   (some false)
theorem A_datalog_sameAtom (a0 : GAtom) (a1 : GAtom) {r1 : Bool} (h : M_datalog_sameAtom a0 a1 = some r1) : ACall cx 63 [.agg [.c (.string a0.Name), .sl 1 (a0.Args.map cS)], .agg [.c (.string a1.Name), .sl 1 (a1.Args.map cS)]] (.c (.bool r1)) := by
  refine aOf Tryd.func63 rfl (by decide) rfl (Nat.le_of_ble_eq_true rfl) ?_; intro _; unfold M_datalog_sameAtom at h; refine aSR ?_; intro _; refine dr_XDMc ?_; refine aSR ?_; intro _; refine spl h (fun c1 h => ?_) (fun c1 h => ?_)
  · intro _; obtain ⟨z1, u2, h⟩ := ob1_ok h; refine cl_XDMc rfl (A_s_Equal_string a0.Args a1.Args u2) ?_; intro _; refine dr_XDMc ?_; refine aRt ?_; intro _; obtain rfl := inj1 h; exact ca_XDMc
  · intro _; refine dr_XDMc ?_; refine aRt ?_; intro _; obtain rfl := inj1 h; exact ca_XDMc
end Go.Proofs.YtflgpccacloadaaDoor.Am
/- What the loop needs that makes a set's forms: a map's block whose elements are rows, one at a time in front. -/
namespace Go.Proofs.YtflgpccacloadaaDoor.Am
open Go.RowKit Go.MapKept

instance : PwT cx := ⟨fun _ _ => trivial⟩
theorem awp_fk {C : Cx} {Q : Exit → St → Prop} {c : Code} {tm : List AV} {hp : List Ent} (h : forceK tm (fun tm => forceK hp (fun hp => True → AWP C c Q ⟨tm, hp⟩))) : AWP C c Q ⟨tm, hp⟩ := forceK_ok (forceK_ok h) trivial

section
variable {κ ν : Type} [DecidableEq κ]
omit [DecidableEq κ] in
theorem nodup_first {M : List (κ × ν)} (hn : (M.map Prod.fst).Nodup) {j : Nat} {q : κ} {u : ν} (h : M[j]? = some (q, u)) : ∀ i, i < j → ∀ p, M[i]? = some p → p.1 ≠ q := fun i hi p hp e => by
  obtain ⟨a1, a2⟩ := List.getElem?_eq_some_iff.1 hp
  obtain ⟨b1, b2⟩ := List.getElem?_eq_some_iff.1 h
  have := List.pairwise_iff_getElem.1 hn i j (by simpa using a1) (by simpa using b1) hi
  simp only [List.getElem_map, a2, b2] at this
  exact this e
end

theorem set_same {α : Type} {l : List α} {j : Nat} {x : α} (h : l[j]? = some x) : l.set j x = l := by
  obtain ⟨hj, rfl⟩ := List.getElem?_eq_some_iff.1 h
  exact List.set_getElem_self hj
/-- the forms of a list, their rows -/
def keysF (l : List GAtom) : List (ByteArray × Int) := (formsM l).map Prod.fst
def rowsF (l : List GAtom) : List Blk := (formsM l).map (fun p => ⟨24, 2, false, p.2.map cGAtom⟩)
theorem formsM_snoc (l : List GAtom) (a : GAtom) : formsM (l ++ [a]) = addF (formsM l) a := by simp [formsM, List.foldl_append]
theorem addF_nodup {M : List ((ByteArray × Int) × List GAtom)} (h : (M.map Prod.fst).Nodup) (a : GAtom) : ((addF M a).map Prod.fst).Nodup := (keys_setM h).1
theorem keysF_nodup (l : List GAtom) : (keysF l).Nodup := by
  have go : ∀ (l : List GAtom) (M : List ((ByteArray × Int) × List GAtom)), (M.map Prod.fst).Nodup → ((l.foldl addF M).map Prod.fst).Nodup := by
    intro l
    induction l with
    | nil => exact fun M h => h
    | cons a r ih => exact fun M h => ih _ (addF_nodup h a)
  exact go l [] List.nodup_nil
theorem addF_cases {M : List ((ByteArray × Int) × List GAtom)} (hn : (M.map Prod.fst).Nodup) (a : GAtom) :
    (∃ j r, M[j]? = some (keyF a, r) ∧ addF M a = M.set j (keyF a, r ++ [a])) ∨ (keyF a ∉ M.map Prod.fst ∧ addF M a = M ++ [(keyF a, [a])]) := by
  by_cases h : keyF a ∈ M.map Prod.fst
  · obtain ⟨⟨k, r⟩, h1, h2⟩ := List.mem_map.1 h
    simp only at h2
    subst h2
    obtain ⟨j, hj⟩ := List.getElem?_of_mem h1
    refine .inl ⟨j, r, hj, ?_⟩
    unfold addF
    rw [getM_at hj (nodup_first hn hj), setM_at hj (nodup_first hn hj)]
    rfl
  · refine .inr ⟨h, ?_⟩
    have hne : ∀ p ∈ M, p.1 ≠ keyF a := fun p hp e => h (List.mem_map.2 ⟨p, hp, e⟩)
    unfold addF
    rw [getM_none hne, setM_none hne]
    rfl
theorem formsM_step {l : List GAtom} {a : GAtom} :
    (∃ (j : Nat) (r : List GAtom), (keysF l)[j]? = some (keyF a) ∧ (rowsF l)[j]? = some ⟨24, 2, false, r.map cGAtom⟩ ∧ keysF (l ++ [a]) = keysF l ∧ rowsF (l ++ [a]) = putL (rowsF l) j ⟨24, 2, false, r.map cGAtom ++ [cGAtom a]⟩) ∨
      (keyF a ∉ keysF l ∧ keysF (l ++ [a]) = keysF l ++ [keyF a] ∧ rowsF (l ++ [a]) = putL (rowsF l) (rowsF l).length ⟨24, 2, false, [cGAtom a]⟩) := by
  unfold keysF rowsF
  rw [formsM_snoc]
  rcases addF_cases (keysF_nodup l) a with ⟨j, r, h1, h2⟩ | ⟨h1, h2⟩
  · have hj := (List.getElem?_eq_some_iff.1 h1).1
    refine .inl ⟨j, r, by rw [List.getElem?_map, h1]; rfl, by rw [List.getElem?_map, h1]; rfl, ?_, ?_⟩
    · rw [h2, List.map_set]
      exact set_same (by rw [List.getElem?_map, h1]; rfl)
    · rw [h2, List.map_set]
      unfold putL
      rw [if_pos (by simpa using hj)]
      simp [List.map_append]
  · refine .inr ⟨h1, by rw [h2, List.map_append]; rfl, ?_⟩
    rw [h2, List.map_append]
    unfold putL
    rw [if_neg (Nat.lt_irrefl _)]
    rfl
theorem rowsF_len (l : List GAtom) : (rowsF l).length = (keysF l).length := by simp [rowsF, keysF]
theorem rowsF_le {l : List GAtom} {B : Blk} (h : B ∈ rowsF l) : B.els.length ≤ l.length := by
  have go : ∀ (l : List GAtom) (M : List ((ByteArray × Int) × List GAtom)) (n : Nat), (∀ p ∈ M, p.2.length ≤ n) → ∀ p ∈ l.foldl addF M, p.2.length ≤ n + l.length := by
    intro l
    induction l with
    | nil => exact fun M n h => h
    | cons a r ih =>
      intro M n h p hp
      have := ih (addF M a) (n + 1) (fun p hp => ?_) p hp
      · simp only [List.length_cons]; omega
      · have hset : ∀ (M : List ((ByteArray × Int) × List GAtom)) (k : ByteArray × Int) (v : List GAtom), ∀ p ∈ setM M k v, p ∈ M ∨ p = (k, v) := by
          intro M k v
          induction M with
          | nil => intro p hp; exact .inr (by simpa [setM] using hp)
          | cons y s ih2 =>
            obtain ⟨b, u⟩ := y
            intro p hp
            rw [setM] at hp
            split at hp
            · rcases List.mem_cons.1 hp with e | e
              · exact .inr e
              · exact .inl (List.mem_cons_of_mem _ e)
            · rcases List.mem_cons.1 hp with e | e
              · exact .inl (by rw [e]; exact List.mem_cons_self ..)
              · rcases ih2 p e with e | e
                · exact .inl (List.mem_cons_of_mem _ e)
                · exact .inr e
        rcases hset M _ _ p hp with e | e
        · have := h p e; omega
        · rw [e]
          have hg : ∀ (M : List ((ByteArray × Int) × List GAtom)) (k : ByteArray × Int) (v : List GAtom), getM M k = some v → ∃ q ∈ M, q.2 = v := by
            intro M k v
            induction M with
            | nil => intro hq; cases hq
            | cons y s ih2 =>
              obtain ⟨b, u⟩ := y
              intro hq
              rw [getM] at hq
              split at hq
              · injection hq with hq; exact ⟨_, List.mem_cons_self .., hq⟩
              · obtain ⟨q, q1, q2⟩ := ih2 hq
                exact ⟨q, List.mem_cons_of_mem _ q1, q2⟩
          show ((getM M (keyF a)).getD [] ++ [a]).length ≤ n + 1
          rw [List.length_append, List.length_singleton]
          cases hq : getM M (keyF a) with
          | none => simp
          | some v =>
            obtain ⟨q, q1, q2⟩ := hg M _ _ hq
            have := h q q1
            simp only [Option.getD_some]
            rw [← q2]
            omega
  obtain ⟨p, hp, rfl⟩ := List.mem_map.1 h
  have := go l [] 0 (fun p hp => by cases hp) p hp
  simp only [List.length_map]
  omega

/-- the entries of a map by its keys and elements -/
def eF (ks : List (ByteArray × Int)) (cs : List AV) : List (List AV) := mE kF id (ks.zip cs)
theorem eF_len {ks : List (ByteArray × Int)} {cs : List AV} : (eF ks cs).length = min ks.length cs.length := by simp [eF, mE]
theorem eF_get {ks : List (ByteArray × Int)} {cs : List AV} {k : Nat} {e : List AV} : (eF ks cs)[k]? = some e ↔ ∃ q c, ks[k]? = some q ∧ cs[k]? = some c ∧ e = [.c (kF q), c] := by
  unfold eF mE
  rw [List.getElem?_map]
  constructor
  · intro h
    cases hz : (ks.zip cs)[k]? with
    | none => rw [hz] at h; cases h
    | some p =>
      rw [hz] at h
      injection h with h
      obtain ⟨h1, h2⟩ := List.getElem?_zip_eq_some.1 hz
      exact ⟨p.1, p.2, h1, h2, h.symm⟩
  · rintro ⟨q, c, h1, h2, rfl⟩
    rw [List.getElem?_zip_eq_some (z := (q, c)) |>.2 ⟨h1, h2⟩]
    rfl
theorem eF_cells {ks : List (ByteArray × Int)} {cs cs' : List AV} {p : AV → AV → Prop} (h2 : cs'.length = cs.length) (h : ∀ (k : Nat) (c c' : AV), cs[k]? = some c → cs'[k]? = some c' → c' = c ∨ p c c') : CellR (eF ks cs) (eF ks cs') p := by
  refine ⟨by rw [eF_len, eF_len, h2], fun k e e' he he' => ?_⟩
  obtain ⟨q, c, a1, a2, rfl⟩ := eF_get.1 he
  obtain ⟨q', c', b1, b2, rfl⟩ := eF_get.1 he'
  rw [a1] at b1
  injection b1 with b1
  subst b1
  refine ⟨rfl, fun j x x' hx hx' => ?_⟩
  match j with
  | 0 => simp at hx hx'; exact .inl (by rw [← hx, ← hx'])
  | 1 => simp at hx hx'; rw [← hx, ← hx']; exact h k c c' a2 b2
  | j + 2 => simp at hx
theorem eF_cell {ks : List (ByteArray × Int)} {cs : List AV} {k : Nat} {c : AV} (h1 : cs.length = ks.length) (h : cs[k]? = some c) : ∃ (k' : Nat) (e : List AV) (j : Nat), (eF ks cs)[k']? = some e ∧ e[j]? = some c := by
  have hk : k < ks.length := by rw [← h1]; exact (List.getElem?_eq_some_iff.1 h).1
  exact ⟨k, _, 1, eF_get.2 ⟨_, c, List.getElem?_eq_getElem hk, h, rfl⟩, rfl⟩
theorem frl_eF {ks : List (ByteArray × Int)} {vs : List Value} : FrL (eF ks (vs.map .c)) := by
  intro e he x hx
  obtain ⟨k, hk⟩ := List.getElem?_of_mem he
  obtain ⟨q, c, _, h2, rfl⟩ := eF_get.1 hk
  rw [List.getElem?_map] at h2
  obtain ⟨v, _, rfl⟩ := Option.map_eq_some_iff.1 h2
  rcases List.mem_cons.1 hx with rfl | hx
  · exact .c _
  · rcases List.mem_cons.1 hx with rfl | hx
    · exact .c _
    · cases hx
theorem eF_rows (l : List GAtom) : eF (keysF l) ((rowsF l).map (fun B => .sl B.sz B.els)) = mE kF vR (formsM l) := by
  unfold eF keysF rowsF mE
  rw [List.map_map, List.zip_map', List.map_map]
  rfl
theorem zip_setV {q : ByteArray × Int} {v : AV} : ∀ (ks : List (ByteArray × Int)) (cs : List AV) (j : Nat), ks[j]? = some q → (ks.zip cs).set j (q, v) = ks.zip (cs.set j v)
  | [], _, _, h => by simp at h
  | _ :: _, [], _, _ => by simp
  | a :: r, c :: s, 0, h => by
    simp at h
    subst h
    rfl
  | a :: r, c :: s, j + 1, h => by
    simp only [List.zip_cons_cons, List.set_cons_succ]
    rw [zip_setV r s j (by simpa using h)]
section
variable {C : Cx} {n : Nat} {o : Oper} {τ : Nat → AV} {η : Nat → Ent} {t k e : TypeId} {ks : List (ByteArray × Int)} {cs cs' : List AV}
theorem zip_nodup (hn : ks.Nodup) (hl : cs.length = ks.length) : ((ks.zip cs).map Prod.fst).Nodup := by rw [List.map_fst_zip (by omega)]; exact hn
theorem lf_entAtF {x y : Operand} {i ver d j : Nat} {q : ByteArray × Int} {c : AV} {te : TI} (hn : ks.Nodup) (hl : cs.length = ks.length) (hq : ks[j]? = some q) (hc : cs[j]? = some c) (hK : KeyA C.P k KF) (hz : te.zero = .slice none 0 0)
    (ho : o.op = .mapEntry t x y) (hdd : o.dst = some d) (hd : d < n) (hx : evA τ x = .mp i ver) (hi : η i = ⟨ver, some ⟨1000001, 2, true, eF ks cs⟩⟩) (hy : KvA (evA τ y) (kF q)) (ht : C.P.underlying t = some (.map k e)) (hte : TyOk C.P e te) :
    LF C n o τ η ⟨.tup [c, .c (.int .i64 j)], [(i, ⟨ver, some ⟨1000001, 2, true, eF ks cs⟩⟩)], []⟩ := by
  have hM : (ks.zip cs)[j]? = some (q, c) := List.getElem?_zip_eq_some.2 ⟨hq, hc⟩
  have hf := nodup_first (zip_nodup hn hl) hM
  have := lf_mapEntry (C := C) (n := n) (o := o) (τ := τ) (η := η) (ek := kF) (ev := id) (M := ks.zip cs) (.c (.slice none 0 0)) hK kF_inj kF_is ho hdd hd hx hi hy ht hte (fun w vs m => by rw [hz]; exact .c _)
  have e : insM (ks.zip cs) q (.c (.slice none 0 0)) = ks.zip cs := by
    unfold insM
    rw [getM_at hM hf]
    rfl
  rw [e, getM_at hM hf, idxM_at hM hf] at this
  exact this
theorem lf_entNewF {x y : Operand} {i ver d : Nat} {q : ByteArray × Int} {te : TI} (hl : cs.length = ks.length) (hq : q ∉ ks) (hK : KeyA C.P k KF) (hz : te.zero = .slice none 0 0)
    (ho : o.op = .mapEntry t x y) (hdd : o.dst = some d) (hd : d < n) (hx : evA τ x = .mp i ver) (hi : η i = ⟨ver, some ⟨1000001, 2, true, eF ks cs⟩⟩) (hy : KvA (evA τ y) (kF q)) (ht : C.P.underlying t = some (.map k e)) (hte : TyOk C.P e te) :
    LF C n o τ η ⟨.tup [.c (.slice none 0 0), .c (.int .i64 ks.length)], [(i, ⟨ver, some ⟨1000001, 2, true, eF (ks ++ [q]) (cs ++ [.c (.slice none 0 0)])⟩⟩)], []⟩ := by
  have hne : ∀ p ∈ ks.zip cs, p.1 ≠ q := fun p hp e => hq (by rw [← e]; exact (List.of_mem_zip (show (p.1, p.2) ∈ ks.zip cs from hp)).1)
  have := lf_mapEntry (C := C) (n := n) (o := o) (τ := τ) (η := η) (ek := kF) (ev := id) (M := ks.zip cs) (.c (.slice none 0 0)) hK kF_inj kF_is ho hdd hd hx hi hy ht hte (fun w vs m => by rw [hz]; exact .c _)
  have e : insM (ks.zip cs) q (.c (.slice none 0 0)) = (ks ++ [q]).zip (cs ++ [.c (.slice none 0 0)]) := by
    unfold insM
    rw [getM_none hne, List.zip_append hl.symm]
    rfl
  rw [e, getM_none hne, idxM_none hne, List.length_zip, hl, Nat.min_self] at this
  exact this
theorem lf_entStF {x y z : Operand} {i ver j : Nat} {q : ByteArray × Int} {v : AV} (hl : cs.length = ks.length) (hq : ks[j]? = some q) (hs : cs' = cs.set j v)
    (ho : o.op = .entryStore t x y z) (hd : o.dst = none) (hx : evA τ x = .mp i ver) (hi : η i = ⟨ver, some ⟨1000001, 2, true, eF ks cs⟩⟩) (hy : evA τ y = .c (.int .i64 j)) (hz : evA τ z = v) :
    LF C n o τ η ⟨.dead, [(i, ⟨ver, some ⟨1000001, 2, true, eF ks cs'⟩⟩)], []⟩ := by
  have hj : j < cs.length := by rw [hl]; exact (List.getElem?_eq_some_iff.1 hq).1
  have hM : (ks.zip cs)[j]? = some (q, cs[j]) := List.getElem?_zip_eq_some.2 ⟨hq, List.getElem?_eq_getElem hj⟩
  have := lf_entryStore (C := C) (n := n) (o := o) (τ := τ) (η := η) (ek := kF) (ev := id) (M := ks.zip cs) (v := v) ho hd hx hi hy hM hz
  rw [zip_setV ks cs j hq, ← hs] at this
  exact this
theorem rowk_foc {η η' : Nat → Ent} {vs : List Value} {k F ver ver' len : Nat} {B B' : Blk} (h1 : η F = ⟨ver, some B⟩) (h2 : η' F = ⟨ver', some B'⟩) (hs : B.sz = B'.sz) (hk : k ≤ vs.length) :
    RowK η η' (eF ks (putL (vs.map .c) k (.own F ver 0 len))) (eF ks (putL (vs.map .c) k (.own F ver' 0 len))) := by
  refine .wv (by rw [eF_len, eF_len, putL_len, putL_len]) (fun i e e' he he' => ?_)
  obtain ⟨q, c, a1, a2, rfl⟩ := eF_get.1 he
  obtain ⟨q', c', b1, b2, rfl⟩ := eF_get.1 he'
  rw [a1] at b1
  injection b1 with b1
  subst b1
  refine ⟨rfl, fun j x x' hx hx' N => ?_⟩
  match j with
  | 0 => simp at hx hx'; rw [← hx, ← hx']; exact wv_fr (.c _)
  | 1 =>
    simp at hx hx'
    rw [← hx, ← hx']
    rw [putL_at (by simpa using hk)] at a2 b2
    by_cases ei : i = k
    · rw [if_pos ei] at a2 b2
      injection a2 with a2
      injection b2 with b2
      rw [← a2, ← b2]
      exact wv_own h1 h2 hs
    · rw [if_neg ei] at a2 b2
      rw [a2] at b2
      injection b2 with b2
      subst b2
      rw [List.getElem?_map] at a2
      obtain ⟨v, _, rfl⟩ := Option.map_eq_some_iff.1 a2
      exact wv_fr (.c _)
  | j + 2 => simp at hx
theorem rowk_focF {ks' : List (ByteArray × Int)} {η η' : Nat → Ent} {vs : List Value} {k F ver ver' len len' : Nat} {B B' : Blk} {x : AV} (hks : ks' = ks) (h1 : η F = ⟨ver, some B⟩) (h2 : η' F = ⟨ver', some B'⟩) (hs : B.sz = B'.sz) (hk : k < vs.length) (hl : len = len') :
    RowK η η' (eF ks (((vs.map .c).set k x).set k (.own F ver 0 len))) (eF ks' (putL (vs.map .c) k (.own F ver' 0 len'))) := by
  subst hks hl
  have := rowk_foc (ks := ks') (vs := vs) (k := k) (len := len) h1 h2 hs (Nat.le_of_lt hk)
  rw [List.set_set]
  unfold putL at this ⊢
  have hk' : k < (vs.map AV.c).length := by simpa using hk
  simp only [if_pos hk'] at this ⊢
  exact this
theorem rowk_focN {ks' : List (ByteArray × Int)} {η η' : Nat → Ent} {vs : List Value} {n n' F ver ver' len len' : Nat} {B B' : Blk} {x : AV} (hks : ks' = ks) (h1 : η F = ⟨ver, some B⟩) (h2 : η' F = ⟨ver', some B'⟩) (hs : B.sz = B'.sz) (hk : n = vs.length) (hn : n' = vs.length) (hl : len = len') :
    RowK η η' (eF ks ((vs.map AV.c ++ [x]).set n (.own F ver 0 len))) (eF ks' (putL (vs.map .c) n' (.own F ver' 0 len'))) := by
  subst hks hl hk hn
  have := rowk_foc (ks := ks') (vs := vs) (k := vs.length) (len := len) h1 h2 hs (Nat.le_refl _)
  have e : (vs.map AV.c ++ [x]).set vs.length (.own F ver 0 len) = vs.map AV.c ++ [.own F ver 0 len] := by
    rw [List.set_append_right _ _ (by simp)]
    simp
  rw [e]
  unfold putL at this ⊢
  have hk' : ¬ vs.length < (vs.map AV.c).length := by simp
  simp only [if_neg hk'] at this ⊢
  exact this
end
end Go.Proofs.YtflgpccacloadaaDoor.Am
/- Models printed by my decompiler, and the proofs that the code computes them. -/
namespace Go.Proofs.YtflgpccacloadaaDoor.Am
open Go.RowKit
def oGSet : Option GSet → AV
  | none => .c (.pointer none)
  | some x => .pim [.sl 2 (x.map cGAtom), .mpi (mE kF vR (formsM x))] 0
instance {z : Option GSet} : FrV (oGSet z) := ⟨by cases z with
  | none => exact .c _
  | some x => exact FrV.h (x := .pim [.sl 2 (x.map cGAtom), .mpi (mE kF vR (formsM x))] 0)⟩
theorem ci_XMade {p K : Prop} (k : K) (h : p := by first | rfl | exact ⟨rfl, rfl⟩ | exact BW.mpf rfl rfl rfl FrI.h rfl | exact cloK3 rfl rfl rfl rfl rfl rfl rfl rfl rfl | exact CloK.bw (BW.fr (by assumption)) | exact BW.fr FrV.h | (refine BW.fr ?_; assumption) | (refine ⟨rfl, ?_⟩; (simp [cGAtom, cS, cGSet, cF, take_len_map]; done)) | (refine RowK.same ?_ FrI.h; first | rfl | (simp [cGAtom, cS, cGSet, cF, take_len_map]; done)) | (refine row_part1 ?_; (repeat (first | exact BWL.nil | exact bwll_nil | exact bw_c | exact BW.sl | exact BW.nil | exact bwll_same rfl FrI.h | refine BWL.cons ?_ ?_ | refine bwll_cons ?_ ?_ | (refine bw_own3 rfl rfl rfl FrI.h ?_ ?_ ?_) | exact BW.mpf rfl rfl rfl FrI.h rfl | exact cloK3 rfl rfl rfl rfl rfl rfl rfl rfl rfl | exact CloK.bw (BW.fr (by assumption)) | exact BW.fr FrV.h | exact BW.fr (by assumption) | refine bw_agg ?_ | refine bw_clo ?_ | refine bw_ptr rfl rfl rfl ?_ | (refine bw_own rfl rfl rfl ?_ FrI.h ?_ ?_) | assumption | omega | rfl | (rw [List.length_map, ← List.length_append]; assumption) | (refine bwll_same ?_ FrI.h; (simp [cGAtom, cS, cGSet, cF] <;> fail)) | (rw [List.map_set]; refine bwll_set (by first | rfl | omega | simp) ?_ ?_) | refine bwll_set (by first | rfl | omega | simp) ?_ ?_ | (rw [List.map_replicate]; refine bwll_rep ?_) | refine bwll_rep ?_ | (rw [List.map_append]; refine bwll_append ?_ ?_) | refine bwll_append ?_ ?_ | (simp [cGAtom, cS, cGSet, cF, take_len_map] <;> fail) | (rw [List.drop_zero, List.take_of_length_le] <;> first | rfl | (simp [cGAtom, cS, cGSet, cF] <;> fail)) | (simp; omega) | (simp only [List.length_map, List.length_append, List.drop_zero, List.length_cons, List.length_nil, Nat.zero_add, Nat.add_zero] at *; omega))); done) | ((repeat (first | exact BWL.nil | exact bwll_nil | exact bw_c | exact BW.sl | exact BW.nil | exact bwll_same rfl FrI.h | refine BWL.cons ?_ ?_ | refine bwll_cons ?_ ?_ | (refine bw_own3 rfl rfl rfl FrI.h ?_ ?_ ?_) | exact BW.mpf rfl rfl rfl FrI.h rfl | exact cloK3 rfl rfl rfl rfl rfl rfl rfl rfl rfl | exact CloK.bw (BW.fr (by assumption)) | exact BW.fr FrV.h | exact BW.fr (by assumption) | refine bw_agg ?_ | refine bw_clo ?_ | refine bw_ptr rfl rfl rfl ?_ | (refine bw_own rfl rfl rfl ?_ FrI.h ?_ ?_) | assumption | omega | rfl | (rw [List.length_map, ← List.length_append]; assumption) | (refine bwll_same ?_ FrI.h; (simp [cGAtom, cS, cGSet, cF] <;> fail)) | (rw [List.map_set]; refine bwll_set (by first | rfl | omega | simp) ?_ ?_) | refine bwll_set (by first | rfl | omega | simp) ?_ ?_ | (rw [List.map_replicate]; refine bwll_rep ?_) | refine bwll_rep ?_ | (rw [List.map_append]; refine bwll_append ?_ ?_) | refine bwll_append ?_ ?_ | (simp [cGAtom, cS, cGSet, cF, take_len_map] <;> fail) | (rw [List.drop_zero, List.take_of_length_le] <;> first | rfl | (simp [cGAtom, cS, cGSet, cF] <;> fail)) | (simp; omega) | (simp only [List.length_map, List.length_append, List.drop_zero, List.length_cons, List.length_nil, Nat.zero_add, Nat.add_zero] at *; omega))); done) | (simp [cGAtom, cS, cGSet, cF, take_len_map]; done)) : p ∧ K := ⟨h, k⟩
theorem pr_XMade {p K : Prop} (k : K) (h : p := by first | assumption | exact Int.natCast_nonneg _ | exact Nat.le_refl _ | exact Nat.zero_le _ | omega | (simp; done) | (simp; omega)) : p ∧ K := ⟨h, k⟩
theorem pl_XMade {p K : Prop} (k : K) (h : p := by first | rfl | exact List.length_map _ | (simp; done) | (simp; omega)) : p ∧ K := ⟨h, k⟩
theorem pe_XMade {p K : Prop} (k : K) (h : p := by first | omega | (simp; omega) | (simp only [List.length_map, List.length_cons, List.length_nil, List.length_append]; omega) | (simp only [List.length_map, List.drop_zero, List.length_cons, List.length_nil, Nat.zero_add, Nat.add_zero] at *; omega)) : p ∧ K := ⟨h, k⟩
theorem dr_XMade {b : Bool} {p K : Prop} (k : K) (h : b = true → p := by intro h; first | (cases h; done) | exact ⟨by kernel_rfl, by kernel_rfl⟩) : (b = true → p) ∧ K := ⟨h, k⟩
theorem cl_XMade {C : Cx} {n : Nat} {o : Oper} {τ : Nat → AV} {η : Nat → Ent} {f : FuncId} {os : Array Operand} {ats : Array TypeId} {r : AV} {args : List AV} {K : Foot → Prop} (ho : o.op = .call ⟨.value (.func f), os, ats⟩) (hc : ACall C f args r) (k : K ⟨r, [], []⟩)
    (hd : InB n o.dst := by exact Nat.le_of_ble_eq_true rfl) (hargs : os.toList.map (evA τ) = args := by first | rfl | (simp [cGAtom, cS, cGSet, cF]; done) | (repeat (first | exact rfl | refine cons_eq ?_ ?_ | exact sl_dt rfl))) (hfr : frs args := by repeat (first | exact trivial | exact fr1_eA _ | exact fr0_eA _ | exact fr1_fr (by assumption) | exact FrV.h | exact fr1_fr FrV.h | refine And.intro ?_ ?_)) (hr : fr1 r := by repeat (first | exact trivial | exact fr1_eA _ | exact fr0_eA _ | exact fr1_fr (by assumption) | exact FrV.h | exact fr1_fr FrV.h | refine And.intro ?_ ?_)) : ∃ f : Foot, LF C n o τ η f ∧ K f := ⟨_, lf_call ho hd hargs hc hfr hr, k⟩
theorem clg_XMade {C : Cx} {n : Nat} {o : Oper} {τ : Nat → AV} {η : Nat → Ent} {f : FuncId} {os : Array Operand} {ats : Array TypeId} {r : AV} {xs ys : List AV} {bs bs' : List (Nat × Blk)} {ks : List Nat} {K : Foot → Prop} (ρ : List (Nat × Nat)) (fz : List Nat) (go nb : List (Nat × Ent)) (r' : AV) (ho : o.op = .call ⟨.value (.func f), os, ats⟩) (hargs : os.toList.map (evA τ) = xs)
    (hc : ACallG C f ys bs ks r bs') (k : K ⟨r', go ++ nb, []⟩) (hd : InB n o.dst := by exact Nat.le_of_ble_eq_true rfl) (hok : okC ρ fz bs ks bs' (idsE go) = true := by rfl) (hgo : allUs η go := by repeat (first | exact trivial | refine And.intro rfl ?_)) (hgl : ltUs n go := by repeat (first | exact trivial | refine And.intro (Nat.le_of_ble_eq_true rfl) ?_))
    (hw : GWL η (fE bs) (lk ρ) (fun i => inB fz i = true) (fun i => inB (keys bs) i = true) xs ys := by repeat (first | exact True.intro | exact gb_nil rfl rfl | exact gb_take rfl ⟨rfl, rfl, rfl⟩ List.map_take FrI.h | exact gb_take rfl ⟨rfl, rfl, rfl⟩ (takeC (by omega)) FrI.h | exact gb_take rfl ⟨rfl, rfl, rfl⟩ (takeC0 (by omega)) FrI.h |  refine gb_some ⟨rfl, rfl, rfl⟩ ?_ | refine And.intro ?_ ?_ | refine gw_ren rfl rfl rfl rfl rfl ?_ | exact gw_oren rfl rfl rfl rfl rfl | exact gw_opren rfl rfl rfl rfl rfl | exact gw_onil rfl rfl | exact gw_mren rfl rfl rfl rfl | refine gw_pren rfl rfl rfl rfl rfl | exact gw_thaw rfl rfl rfl | refine gw_tup ?_ | refine gw_ifc ?_ | exact GWL.nil | exact gwll_nil | exact gw_c | exact GW.sl | exact GW.nil | exact gwll_same rfl FrI.h | refine GWL.cons ?_ ?_ | refine gwll_cons ?_ ?_ | (refine gw_own3 rfl rfl rfl FrI.h ?_ ?_ ?_) | exact GW.mpf rfl rfl rfl FrI.h rfl | refine CloK.bw ?_ | exact GW.fr FrV.h | exact GW.fr (by assumption) | refine gw_agg ?_ | refine gw_clo ?_ | refine gw_ptr rfl rfl rfl ?_ | (refine gw_own rfl rfl rfl ?_ FrI.h ?_ ?_) | assumption | omega | rfl | (rw [List.length_map, ← List.length_append]; assumption) | (refine gwll_same ?_ FrI.h; (simp [cGAtom, cS, cGSet, cF] <;> fail)) | (rw [List.map_set]; refine gwll_set (by first | rfl | omega | simp) ?_ ?_) | refine gwll_set (by first | rfl | omega | simp) ?_ ?_ | (rw [List.map_replicate]; refine gwll_rep ?_) | refine gwll_rep ?_ | (rw [List.map_append]; refine gwll_append ?_ ?_) | refine gwll_append ?_ ?_ | (simp [cGAtom, cS, cGSet, cF, take_len_map] <;> fail) | (rw [List.drop_zero, List.take_of_length_le] <;> first | rfl | (simp [cGAtom, cS, cGSet, cF] <;> fail)) | (simp; omega) | (simp only [List.length_map, List.length_append, List.drop_zero, List.length_cons, List.length_nil, Nat.zero_add, Nat.add_zero] at *; omega))) (hb : GBL η (fE bs) (lk ρ) (fun i => inB fz i = true) (fun i => inB (keys bs) i = true) bs := by repeat (first | exact True.intro | exact gb_nil rfl rfl | exact gb_take rfl ⟨rfl, rfl, rfl⟩ List.map_take FrI.h | exact gb_take rfl ⟨rfl, rfl, rfl⟩ (takeC (by omega)) FrI.h | exact gb_take rfl ⟨rfl, rfl, rfl⟩ (takeC0 (by omega)) FrI.h |  refine gb_some ⟨rfl, rfl, rfl⟩ ?_ | refine And.intro ?_ ?_ | refine gw_ren rfl rfl rfl rfl rfl ?_ | exact gw_oren rfl rfl rfl rfl rfl | exact gw_opren rfl rfl rfl rfl rfl | exact gw_onil rfl rfl | exact gw_mren rfl rfl rfl rfl | refine gw_pren rfl rfl rfl rfl rfl | exact gw_thaw rfl rfl rfl | refine gw_tup ?_ | refine gw_ifc ?_ | exact GWL.nil | exact gwll_nil | exact gw_c | exact GW.sl | exact GW.nil | exact gwll_same rfl FrI.h | refine GWL.cons ?_ ?_ | refine gwll_cons ?_ ?_ | (refine gw_own3 rfl rfl rfl FrI.h ?_ ?_ ?_) | exact GW.mpf rfl rfl rfl FrI.h rfl | refine CloK.bw ?_ | exact GW.fr FrV.h | exact GW.fr (by assumption) | refine gw_agg ?_ | refine gw_clo ?_ | refine gw_ptr rfl rfl rfl ?_ | (refine gw_own rfl rfl rfl ?_ FrI.h ?_ ?_) | assumption | omega | rfl | (rw [List.length_map, ← List.length_append]; assumption) | (refine gwll_same ?_ FrI.h; (simp [cGAtom, cS, cGSet, cF] <;> fail)) | (rw [List.map_set]; refine gwll_set (by first | rfl | omega | simp) ?_ ?_) | refine gwll_set (by first | rfl | omega | simp) ?_ ?_ | (rw [List.map_replicate]; refine gwll_rep ?_) | refine gwll_rep ?_ | (rw [List.map_append]; refine gwll_append ?_ ?_) | refine gwll_append ?_ ?_ | (simp [cGAtom, cS, cGSet, cF, take_len_map] <;> fail) | (rw [List.drop_zero, List.take_of_length_le] <;> first | rfl | (simp [cGAtom, cS, cGSet, cF] <;> fail)) | (simp; omega) | (simp only [List.length_map, List.length_append, List.drop_zero, List.length_cons, List.length_nil, Nat.zero_add, Nat.add_zero] at *; omega)))
    (hr : GW (fE bs') (updAll η (go ++ nb)) (lk (backN ρ bs')) (fun _ => False) (fun i => inB (idsE nb) i = true) r r' := by repeat (first | exact True.intro | exact gb_nil rfl rfl | exact gb_take rfl ⟨rfl, rfl, rfl⟩ List.map_take FrI.h | exact gb_take rfl ⟨rfl, rfl, rfl⟩ (takeC (by omega)) FrI.h | exact gb_take rfl ⟨rfl, rfl, rfl⟩ (takeC0 (by omega)) FrI.h |  refine gb_some ⟨rfl, rfl, rfl⟩ ?_ | refine And.intro ?_ ?_ | refine gw_ren rfl rfl rfl rfl rfl ?_ | exact gw_oren rfl rfl rfl rfl rfl | exact gw_opren rfl rfl rfl rfl rfl | exact gw_onil rfl rfl | exact gw_mren rfl rfl rfl rfl | refine gw_pren rfl rfl rfl rfl rfl | exact gw_thaw rfl rfl rfl | refine gw_tup ?_ | refine gw_ifc ?_ | exact GWL.nil | exact gwll_nil | exact gw_c | exact GW.sl | exact GW.nil | exact gwll_same rfl FrI.h | refine GWL.cons ?_ ?_ | refine gwll_cons ?_ ?_ | (refine gw_own3 rfl rfl rfl FrI.h ?_ ?_ ?_) | exact GW.mpf rfl rfl rfl FrI.h rfl | refine CloK.bw ?_ | exact GW.fr FrV.h | exact GW.fr (by assumption) | refine gw_agg ?_ | refine gw_clo ?_ | refine gw_ptr rfl rfl rfl ?_ | (refine gw_own rfl rfl rfl ?_ FrI.h ?_ ?_) | assumption | omega | rfl | (rw [List.length_map, ← List.length_append]; assumption) | (refine gwll_same ?_ FrI.h; (simp [cGAtom, cS, cGSet, cF] <;> fail)) | (rw [List.map_set]; refine gwll_set (by first | rfl | omega | simp) ?_ ?_) | refine gwll_set (by first | rfl | omega | simp) ?_ ?_ | (rw [List.map_replicate]; refine gwll_rep ?_) | refine gwll_rep ?_ | (rw [List.map_append]; refine gwll_append ?_ ?_) | refine gwll_append ?_ ?_ | (simp [cGAtom, cS, cGSet, cF, take_len_map] <;> fail) | (rw [List.drop_zero, List.take_of_length_le] <;> first | rfl | (simp [cGAtom, cS, cGSet, cF] <;> fail)) | (simp; omega) | (simp only [List.length_map, List.length_append, List.drop_zero, List.length_cons, List.length_nil, Nat.zero_add, Nat.add_zero] at *; omega)))
    (hnb : nbOk n η (updAll η (go ++ nb)) ρ ks (fE bs') (lk (backN ρ bs')) (fun i => inB (idsE nb) i = true) bs' nb := by repeat (first | exact True.intro | rfl | exact Nat.le_of_ble_eq_true rfl | exact gb_nil rfl rfl | exact gb_take rfl ⟨rfl, rfl, rfl⟩ List.map_take FrI.h | exact gb_take rfl ⟨rfl, rfl, rfl⟩ (takeC (by omega)) FrI.h | exact gb_take rfl ⟨rfl, rfl, rfl⟩ (takeC0 (by omega)) FrI.h |  refine gb_some ⟨rfl, rfl, rfl⟩ ?_ | refine And.intro ?_ ?_ | refine gw_ren rfl rfl rfl rfl rfl ?_ | exact gw_oren rfl rfl rfl rfl rfl | exact gw_opren rfl rfl rfl rfl rfl | exact gw_onil rfl rfl | exact gw_mren rfl rfl rfl rfl | refine gw_pren rfl rfl rfl rfl rfl | exact gw_thaw rfl rfl rfl | refine gw_tup ?_ | refine gw_ifc ?_ | exact GWL.nil | exact gwll_nil | exact gw_c | exact GW.sl | exact GW.nil | exact gwll_same rfl FrI.h | refine GWL.cons ?_ ?_ | refine gwll_cons ?_ ?_ | (refine gw_own3 rfl rfl rfl FrI.h ?_ ?_ ?_) | exact GW.mpf rfl rfl rfl FrI.h rfl | refine CloK.bw ?_ | exact GW.fr FrV.h | exact GW.fr (by assumption) | refine gw_agg ?_ | refine gw_clo ?_ | refine gw_ptr rfl rfl rfl ?_ | (refine gw_own rfl rfl rfl ?_ FrI.h ?_ ?_) | assumption | omega | rfl | (rw [List.length_map, ← List.length_append]; assumption) | (refine gwll_same ?_ FrI.h; (simp [cGAtom, cS, cGSet, cF] <;> fail)) | (rw [List.map_set]; refine gwll_set (by first | rfl | omega | simp) ?_ ?_) | refine gwll_set (by first | rfl | omega | simp) ?_ ?_ | (rw [List.map_replicate]; refine gwll_rep ?_) | refine gwll_rep ?_ | (rw [List.map_append]; refine gwll_append ?_ ?_) | refine gwll_append ?_ ?_ | (simp [cGAtom, cS, cGSet, cF, take_len_map] <;> fail) | (rw [List.drop_zero, List.take_of_length_le] <;> first | rfl | (simp [cGAtom, cS, cGSet, cF] <;> fail)) | (simp; omega) | (simp only [List.length_map, List.length_append, List.drop_zero, List.length_cons, List.length_nil, Nat.zero_add, Nat.add_zero] at *; omega))) : ∃ f : Foot, LF C n o τ η f ∧ K f := ⟨_, lf_callG ρ fz go nb ho hd hargs hc hok hgo hgl hw hb hr hnb, k⟩
def M_datalog_made_L1 (a0 : List GAtom) : Nat → Int → (List GAtom) → Option (List GAtom)
  | 0, _, _ => none
  | k22 + 1, v20, v21 =>
    sel (decide (v20 < ((a0.map cGAtom).length : Int)))
     (ix a0 v20 (fun y23 =>
       ob1 (M_cloneS y23.Args) (fun z24 =>
        grd ((v21.length + 1) * 40 ≤ 140737488355328) (M_datalog_made_L1 a0 k22 (IntKind.i64.wrap (v20 + 1)) (v21 ++ [{ Name := y23.Name, Args := z24 : GAtom }])))))
     (some v21)
def M_datalog_made (g : Nat) (a0 : List GAtom) : Option (Option GSet) :=
  ob1 (M_datalog_made_L1 a0 ((((a0.map cGAtom).length : Int)).toNat + 1) 0 [] : Option (List GAtom))
   (fun v12 => ob1 (M_sortN v12) (fun c25 =>
      grd (c25.length = v12.length) (ob1 (M_s_CompactFunc_Atom g c25 M_datalog_sameAtom) (fun z26 =>
       grd (z26.length * 40 ≤ 140737488355328) (some (some z26))))))
set_option maxHeartbeats 16000000 in
set_option maxRecDepth 100000 in
theorem A_datalog_made (g : Nat) (a0 : List GAtom) {r1 : Option GSet} (h : M_datalog_made g a0 = some r1) : ACall cx 48 [.sl 2 (a0.map cGAtom)] (oGSet r1) := by
  refine aOf Tryd.func48 rfl (by decide) rfl (Nat.le_of_ble_eq_true rfl) ?_
  intro _
  unfold M_datalog_made at h
  refine aSq ?_
  refine aRg ?_
  intro _
  refine dr_XMade ?_
  refine aSq ?_
  refine aRg ?_
  intro _
  refine ⟨_, lf_mapnewT 1000001 kF vR rfl rfl (Nat.le_of_ble_eq_true rfl) rfl, ?_⟩
  intro _
  refine dr_XMade ?_
  obtain ⟨o1, h, hK2⟩ := ob1_ok h
  refine awp_cut (α := List GAtom) (fun v12 => mkS 75 [(3, .ptr 11 0 0 0)] [(9, mBt 1000001 kF vR []), (11, ⟨84, 2, true, [[.own 30 0 0 v12.length, .mp 9 0]]⟩), (30, ⟨24, 2, false, v12.map cGAtom⟩)]) (fun v => o1 = v) ?_ ?_
  · refine aSq ?_
    refine aRg ?_
    intro _
    refine dr_XMade ?_
    refine aBk ?_
    refine awp_loop (α := Nat × Int × (List GAtom)) (fun x => mkS 75 [(3, .ptr 11 0 0 0), (12, .sl 2 (a0.map cGAtom)), (13, .c (.int .i64 ((a0.map cGAtom).length : Int))), (14, .c (.int .i64 x.2.1))] [(9, mBt 1000001 kF vR []), (11, ⟨84, 2, true, [[.own 30 0 0 x.2.2.length, .mp 9 0]]⟩), (30, ⟨24, 2, false, x.2.2.map cGAtom⟩)]) (fun x => M_datalog_made_L1 a0 x.1 x.2.1 x.2.2 = some o1) (fun x => x.1) ((((a0.map cGAtom).length : Int)).toNat + 1, 0, []) h ?_ ?_
    · repeat (first | exact True.intro | refine ci_XMade ?_)
    · intro x3 h
      intro _
      obtain ⟨k22, m4, h⟩ := succ_of (f := fun n => M_datalog_made_L1 a0 n x3.2.1 x3.2.2) rfl h
      replace h : M_datalog_made_L1 a0 (k22 + 1) x3.2.1 x3.2.2 = some o1 := h
      rw [M_datalog_made_L1] at h
      refine aSq ?_
      refine aRg ?_
      intro _
      refine dr_XMade ?_
      refine aSq ?_
      refine aCd ?_
      intro _
      refine spl h (fun c5 h => ?_) (fun c5 h => ?_)
      · refine aSk ?_
        refine aSq ?_
        refine aBk ?_
        refine aSq ?_
        refine aRg ?_
        intro _
        obtain ⟨y23, w6, q7, h⟩ := ix_ok h
        refine Exists.intro (cGAtom y23) (And.intro (map_at' w6) ?_)
        intro _
        refine pr_XMade ?_
        refine dr_XMade ?_
        refine aRg ?_
        intro _
        obtain ⟨z24, u8, h⟩ := ob1_ok h
        refine cl_XMade rfl (A_cloneS y23.Args u8) ?_
        intro _
        obtain ⟨q9, h⟩ := grd_ok h
        refine pl_XMade ?_
        refine pl_XMade ?_
        refine And.intro (by first | with_reducible assumption | (show (x3.2.2.length + 1) * 40 ≤ 140737488355328; with_reducible assumption) | omega | (simp; omega)) ?_
        refine pe_XMade ?_
        refine dr_XMade ?_
        refine aRg ?_
        intro _
        refine dr_XMade ?_
        refine ⟨(k22, (IntKind.i64.wrap (x3.2.1 + 1)), (x3.2.2 ++ [{ Name := y23.Name, Args := z24 : GAtom }])), h, ltS m4, ?_⟩
        repeat (first | exact True.intro | refine ci_XMade ?_)
      · refine aEx ?_
        refine ⟨x3.2.2, (Option.some.inj h).symm, ?_⟩
        repeat (first | exact True.intro | refine ci_XMade ?_)
  · rintro v12 ho
    have ho := ho.symm
    subst ho
    intro _
    replace h := hK2
    refine aSq ?_
    refine aRg ?_
    intro _
    obtain ⟨c25, u10, h⟩ := ob1_ok h
    refine clg_XMade [(900, 30)] [] [] [(30, ⟨0, some ⟨24, 2, false, c25.map cGAtom⟩⟩)] (.tup []) rfl rfl (A_sortN v12 u10) ?_
    obtain ⟨q11, h⟩ := grd_ok h
    intro _
    refine dr_XMade ?_
    refine aSq ?_
    refine aRg ?_
    intro _
    obtain ⟨z26, u12, h⟩ := ob1_ok h
    refine clg_XMade [(0, 30), (0, 30)] [] [(30, ⟨1, none⟩)] [(30, ⟨2, some ⟨24, 2, false, z26.map cGAtom⟩⟩)] (.own 30 2 0 z26.length) rfl rfl (A_s_CompactFunc_Atom g c25 M_datalog_sameAtom (.clo (.func 63) [] []) (Fr.clo FrC_nil FrE.h) ⟨_, _, _, rfl⟩ (fun x0 x1 y0 hx => ⟨63, [], _, rfl, A_datalog_sameAtom x0 x1 hx⟩) u12) ?_
    intro _
    refine dr_XMade ?_
    obtain ⟨q13, h⟩ := grd_ok h
    refine awp_cut (α := Unit) (fun _ => mkS 75 [(3, .ptr 11 0 0 0)] [(9, mBt 1000001 kF vR (formsM z26)), (11, ⟨84, 2, true, [[.own 30 0 0 z26.length, .mp 9 0]]⟩), (30, ⟨24, 2, false, z26.map cGAtom⟩)]) (fun _ => True) ?_ ?_
    · refine aSq ?_
      refine aRg ?_
      intro _
      refine dr_XMade ?_
      refine aBk ?_
      refine awp_rows (α := Nat) 9 1000001 2 true (fun i => (mkS 75 [(3, .ptr 11 0 0 0), (50, .own 30 0 0 z26.length), (51, .c (.int .i64 ((z26.length : Nat) : Int))), (52, .c (.int .i64 ((i : Nat) : Int)))] []).tm) (fun i => (mkS 75 [] [(11, ⟨84, 2, true, [[.own 30 0 0 z26.length, .mp 9 0]]⟩), (30, ⟨24, 2, false, z26.map cGAtom⟩)]).hp) (fun i cs => eF (keysF (z26.take i)) cs) (fun i => rowsF (z26.take i)) (fun i => i ≤ z26.length) (fun i => z26.length - i) 0 (Nat.zero_le _)
        (fun x => ⟨Nat.le_of_ble_eq_true rfl, Nat.le_of_ble_eq_true rfl⟩) (fun x cs cs' p h1 h2 h => eF_cells h2 h) (fun x cs k c h1 h => eF_cell (by rw [h1, rowsF_len]) h) (fun B hB => by simp [rowsF, formsM] at hB) ?_ ?_
      · repeat (first | exact True.intro | refine And.intro (RowK.same rfl FrL_nil) ?_ | refine ci_XMade ?_)
      · intro i hi vals hv
        by_cases hlt : i < z26.length
        · have hat := List.getElem?_eq_getElem hlt
          have hat0 : z26[0 + ((i : Nat) : Int).toNat]? = some z26[i] := by rw [Nat.zero_add, Int.toNat_natCast]; exact hat
          have hwr : IntKind.i64.wrap ((i : Int) + 1) = (i : Int) + 1 := wrap_eq (by omega) (by omega)
          have htk : z26.take (i + 1) = z26.take i ++ [z26[i]] := by rw [List.take_add_one, hat]; rfl
          have hll : ∀ B ∈ rowsF (z26.take i), B.els.length ≤ i := fun B hB => Nat.le_trans (rowsF_le hB) (by rw [List.length_take]; omega)
          rcases formsM_step (l := z26.take i) (a := z26[i]) with ⟨j, r, f1, f2, f3, f4⟩ | ⟨f1, f3, f4⟩
          · have hj : j < vals.length := by rw [hv]; exact (List.getElem?_eq_some_iff.1 f2).1
            have hr := hll _ (List.mem_of_getElem? f2)
            simp only [List.length_map] at hr
            refine .inl ⟨j, _, 60, f2, by decide, Nat.le_of_ble_eq_true rfl, rfl, ?_⟩
            refine awp_fk ?_
            intro _
            refine aSq ?_
            refine aRg ?_
            intro _
            refine dr_XMade ?_
            refine aSq ?_
            refine aCd ?_
            intro _
            refine ⟨fun _ => ?_, fun hc => absurd hc (by simp; omega)⟩
            refine aSk ?_
            refine aSq ?_
            refine aBk ?_
            refine aSq ?_
            refine aRg ?_
            intro _
            refine Exists.intro (cGAtom z26[i]) (And.intro (map_at' hat0) ?_)
            intro _
            refine pr_XMade ?_
            refine pr_XMade ?_
            refine dr_XMade ?_
            refine aSq ?_
            refine aRg ?_
            intro _
            refine dr_XMade ?_
            refine aRg ?_
            intro _
            refine ⟨_, lf_entAtF (q := keyF z26[i]) (j := j) (keysF_nodup _) (by simp [hv, rowsF_len]) f1 (List.getElem?_set_self (by simpa using hj)) kF_key rfl rfl rfl (Nat.le_of_ble_eq_true rfl) rfl rfl kvF Tryd.underlying82 (tyTab_ok 25 _ rfl), ?_⟩
            intro _
            refine ⟨_, lf_entStF (q := keyF z26[i]) (j := j) (by simp [hv, rowsF_len]) f1 rfl rfl rfl rfl rfl rfl rfl, ?_⟩
            intro _
            repeat (refine And.intro (by first | rfl | (simp; done) | omega | (simp; omega)) ?_)
            refine dr_XMade ?_
            refine aRg ?_
            intro _
            refine dr_XMade ?_
            have hfr : FrL (r.map cGAtom ++ [cGAtom z26[i]]) := by
              have := frl_cGAtom (r ++ [z26[i]])
              rw [List.map_append] at this
              exact this
            refine ⟨i + 1, ⟨24, 2, false, r.map cGAtom ++ [cGAtom z26[i]]⟩, 60, hlt, by show z26.length - (i + 1) < z26.length - i; omega, ?_, ⟨by decide, Nat.le_of_ble_eq_true rfl, Nat.le_of_ble_eq_true rfl, rfl, hfr, Nat.le_of_ble_eq_true rfl⟩, ?_, ?_⟩
            · show rowsF (z26.take (i + 1)) = _
              rw [htk]
              exact f4
            · repeat (first | exact True.intro | refine And.intro (rowk_focF (by rw [htk]; exact f3) rfl rfl rfl hj (by simp)) ?_ | refine And.intro (RowK.same rfl hfr) ?_ | exact hwr | refine ci_XMade ?_)
            · intro vs
              repeat (first | exact True.intro | refine And.intro (RowK.same rfl frl_eF) ?_ | refine ci_XMade ?_)
          · refine .inr ?_
            refine awp_fk ?_
            intro _
            refine aSq ?_
            refine aRg ?_
            intro _
            refine dr_XMade ?_
            refine aSq ?_
            refine aCd ?_
            intro _
            refine ⟨fun _ => ?_, fun hc => absurd hc (by simp; omega)⟩
            refine aSk ?_
            refine aSq ?_
            refine aBk ?_
            refine aSq ?_
            refine aRg ?_
            intro _
            refine Exists.intro (cGAtom z26[i]) (And.intro (map_at' hat0) ?_)
            intro _
            refine pr_XMade ?_
            refine pr_XMade ?_
            refine dr_XMade ?_
            refine aSq ?_
            refine aRg ?_
            intro _
            refine dr_XMade ?_
            refine aRg ?_
            intro _
            refine ⟨_, lf_entNewF (q := keyF z26[i]) (by simp [hv, rowsF_len]) f1 kF_key rfl rfl rfl (Nat.le_of_ble_eq_true rfl) rfl rfl kvF Tryd.underlying82 (tyTab_ok 25 _ rfl), ?_⟩
            intro _
            refine ⟨_, lf_entStF (q := keyF z26[i]) (j := (keysF (z26.take i)).length) (by simp [hv, rowsF_len]) (by simp) rfl rfl rfl rfl rfl rfl rfl, ?_⟩
            intro _
            repeat (refine And.intro (by first | rfl | (simp; done) | omega | (simp; omega)) ?_)
            refine dr_XMade ?_
            refine aRg ?_
            intro _
            refine dr_XMade ?_
            have hfr : FrL [cGAtom z26[i]] := frl_cGAtom [z26[i]]
            refine ⟨i + 1, ⟨24, 2, false, [cGAtom z26[i]]⟩, 71, hlt, by show z26.length - (i + 1) < z26.length - i; omega, ?_, ⟨by decide, Nat.le_of_ble_eq_true rfl, Nat.le_of_ble_eq_true rfl, rfl, hfr, Nat.le_of_ble_eq_true rfl⟩, ?_, ?_⟩
            · show rowsF (z26.take (i + 1)) = _
              rw [htk]
              exact f4
            · repeat (first | exact True.intro | refine And.intro (rowk_focN (by rw [htk]; exact f3) rfl rfl rfl (by rw [hv, rowsF_len]) hv.symm (by simp)) ?_ | refine And.intro (RowK.same rfl hfr) ?_ | exact hwr | refine ci_XMade ?_)
            · intro vs
              repeat (first | exact True.intro | refine And.intro (RowK.same rfl frl_eF) ?_ | refine ci_XMade ?_)
        · refine .inr ?_
          refine awp_fk ?_
          intro _
          refine aSq ?_
          refine aRg ?_
          intro _
          refine dr_XMade ?_
          refine aSq ?_
          refine aCd ?_
          intro _
          refine ⟨fun hc => absurd hc (by simp; omega), fun _ => ?_⟩
          refine aEx ?_
          have heq : eF (keysF (z26.take i)) ((rowsF (z26.take i)).map (fun B => .sl B.sz B.els)) = mE kF vR (formsM z26) := by
            rw [List.take_of_length_le (by omega)]
            exact eF_rows z26
          refine ⟨(mkS 75 [(3, .ptr 11 0 0 0)] []).tm, (mkS 75 [] [(11, ⟨84, 2, true, [[.own 30 0 0 z26.length, .mp 9 0]]⟩), (30, ⟨24, 2, false, z26.map cGAtom⟩)]).hp, fun B hB => Nat.le_trans (rowsF_le hB) (by rw [List.length_take]; omega), Nat.le_of_ble_eq_true rfl, Nat.le_of_ble_eq_true rfl, ?_, (), trivial, ?_⟩
          · repeat (first | exact True.intro | refine And.intro (RowK.same rfl frl_eF) ?_ | refine ci_XMade ?_)
          · repeat (first | exact True.intro | refine And.intro (RowK.same heq (heq ▸ FrL_mE FrM.h _)) ?_ | refine ci_XMade ?_)
    · rintro - -
      intro _
      refine aSq ?_
      refine aRg ?_
      intro _
      refine dr_XMade ?_
      refine aRt ?_
      intro _
      obtain rfl := inj1 h
      repeat (first | exact True.intro | refine ci_XMade ?_)
end Go.Proofs.YtflgpccacloadaaDoor.Am
/- Plain law: the set that is made of a list does not depend on the list's order. -/
namespace Go.Proofs.YtflgpccacloadaaDoor.Am
open Go.RowKit
theorem cloneS_some {l r : List ByteArray} (h : M_cloneS l = some r) : r = l ∧ l.length * 16 ≤ 140737488355328 := by
  obtain ⟨h0, h⟩ := grd_ok h
  exact ⟨(Option.some.inj h).symm, h0⟩
theorem grd_mk {α : Type} {p : Prop} [Decidable p] {x y : Option α} (hp : p) (h : x = y) : grd p x = y := by
  unfold grd
  rw [if_pos hp]
  exact h
/-- what the copies ask -/
def MadeOk (l : List GAtom) : Prop := (∀ a ∈ l, a.Args.length * 16 ≤ 140737488355328) ∧ l.length * 40 ≤ 140737488355328
theorem madeL1_ok (a0 : List GAtom) : ∀ (k i : Nat) (acc r : List GAtom), acc.length = i → i ≤ a0.length → acc = a0.take i → i * 40 ≤ 140737488355328 → (∀ a ∈ acc, a.Args.length * 16 ≤ 140737488355328) → M_datalog_made_L1 a0 k i acc = some r → r = a0 ∧ MadeOk a0 := by
  intro k
  induction k with
  | zero => intro i acc r _ _ _ _ _ h; cases h
  | succ k ih =>
    intro i acc r hl hi hacc hb ha h
    rw [M_datalog_made_L1] at h
    by_cases hlt : i < a0.length
    · rw [show decide ((i : Int) < ((a0.map cGAtom).length : Int)) = true from by simp; omega] at h
      obtain ⟨y, hy, _, h⟩ := ix_ok (sel_t rfl h)
      rw [Int.toNat_natCast] at hy
      obtain ⟨z, hz, h⟩ := ob1_ok h
      obtain ⟨rfl, hz2⟩ := cloneS_some hz
      obtain ⟨hg, h⟩ := grd_ok h
      rw [wrap_eq (by omega) (by omega)] at h
      refine ih (i + 1) (acc ++ [y]) r (by simp [hl]) (by omega) ?_ (by omega) ?_ h
      · rw [List.take_add_one, hacc, hy]; rfl
      · intro a h1
        rcases List.mem_append.1 h1 with q | q
        · exact ha a q
        · simp at q; rw [q]; exact hz2
    · rw [show decide ((i : Int) < ((a0.map cGAtom).length : Int)) = false from by simp; omega] at h
      have h := Option.some.inj (sel_f rfl h)
      have e : acc = a0 := by rw [hacc, List.take_of_length_le (by omega)]
      subst h
      exact ⟨e, by rw [← e]; exact ⟨ha, by rw [hl]; omega⟩⟩
theorem madeL1_mk (a0 : List GAtom) (hok : MadeOk a0) : ∀ (k i : Nat) (acc : List GAtom), i + k = a0.length + 1 → acc = a0.take i → i ≤ a0.length → M_datalog_made_L1 a0 k i acc = some a0 := by
  intro k
  induction k with
  | zero => intro i acc h _ hi; omega
  | succ k ih =>
    intro i acc hk hacc hi
    rw [M_datalog_made_L1]
    have hb := hok.2
    have hl : acc.length = i := by rw [hacc, List.length_take]; omega
    by_cases hlt : i < a0.length
    · rw [show decide ((i : Int) < ((a0.map cGAtom).length : Int)) = true from by simp; omega]
      have hy := List.getElem?_eq_getElem hlt
      show ix a0 i _ = _
      unfold ix
      rw [Int.toNat_natCast]
      unfold ixn
      rw [hy]
      refine grd_mk (Int.natCast_nonneg _) ?_
      show ob1 (M_cloneS a0[i].Args) _ = _
      rw [show M_cloneS a0[i].Args = some a0[i].Args from grd_mk (hok.1 _ (List.getElem_mem hlt)) rfl]
      refine grd_mk (by rw [hl]; omega) ?_
      rw [wrap_eq (by omega) (by omega)]
      refine ih (i + 1) _ (by omega) ?_ (by omega)
      rw [List.take_add_one, hacc, hy]
      rfl
    · rw [show decide ((i : Int) < ((a0.map cGAtom).length : Int)) = false from by simp; omega]
      show some acc = _
      rw [hacc, List.take_of_length_le (by omega)]
/-- the order of atoms -/
def OrdA (l : List GAtom) : Prop := l.Pairwise (fun x y => atomC x y ≤ 0)
theorem sortN_ord (l : List GAtom) : OrdA (sortN l) := by
  have h := List.pairwise_mergeSort (le := fun x y => !(ltOf atomC) y x) (fun a b c h1 h2 => by
    have g1 : ¬ atomC b a < 0 := by simpa [ltOf] using h1
    have g2 : ¬ atomC c b < 0 := by simpa [ltOf] using h2
    have a1 := atomC_cmp.anti c a
    have a2 := atomC_cmp.le_trans (x := a) (y := b) (z := c) (by have := atomC_cmp.anti a b; have := atomC_cmp.total a b; omega) (by have := atomC_cmp.total b c; omega)
    have : ¬ atomC c a < 0 := by omega
    simpa [ltOf] using this) (fun a b => by
    have := atomC_cmp.total a b
    have := atomC_cmp.total b a
    have a1 := atomC_cmp.anti a b
    by_cases h : atomC b a < 0
    · have : ¬ atomC a b < 0 := by have := atomC_cmp.anti b a; omega
      simp [ltOf, this]
    · simp [ltOf, h]) l
  refine h.imp (fun {a b} h => ?_)
  have g1 : ¬ atomC b a < 0 := by simpa [ltOf] using h
  have := atomC_cmp.total a b
  omega
theorem sortN_perm (l : List GAtom) : (sortN l).Perm l := List.mergeSort_perm _ _
theorem ordA_unique {a b : List GAtom} (ha : OrdA a) (hb : OrdA b) (h : a.Perm b) : a = b :=
  List.Perm.eq_of_pairwise (fun x y _ _ h1 h2 => atomC_cmp.le_asym h1 h2) ha hb h
theorem sortN_eq {a b : List GAtom} (h : a.Perm b) : sortN a = sortN b := ordA_unique (sortN_ord a) (sortN_ord b) ((sortN_perm a).trans (h.trans (sortN_perm b).symm))
/-- the order of the list does not matter -/
theorem made_perm (g : Nat) {l l' : List GAtom} (hp : l.Perm l') {r : Option GSet} (h : M_datalog_made g l = some r) : M_datalog_made g l' = some r := by
  unfold M_datalog_made at h ⊢
  obtain ⟨v, h1, h⟩ := ob1_ok h
  have hb0 : (((l.map cGAtom).length : Int)).toNat + 1 = l.length + 1 := by simp
  have hb0' : (((l'.map cGAtom).length : Int)).toNat + 1 = l'.length + 1 := by simp
  rw [hb0] at h1
  obtain ⟨e, hok⟩ := madeL1_ok l (l.length + 1) 0 [] v rfl (Nat.zero_le _) rfl (Nat.zero_le _) (fun a ha => by cases ha) h1
  rw [e] at h
  have hok' : MadeOk l' := ⟨fun a ha => hok.1 a (hp.mem_iff.2 ha), by rw [← hp.length_eq]; exact hok.2⟩
  rw [hb0', show M_datalog_made_L1 l' (l'.length + 1) 0 [] = some l' from madeL1_mk l' hok' (l'.length + 1) 0 [] (by omega) rfl (Nat.zero_le _), ob1_some]
  rw [show M_sortN l' = M_sortN l by unfold M_sortN; rw [hp.length_eq, sortN_eq hp]]
  rw [← hp.length_eq]
  exact h
end Go.Proofs.YtflgpccacloadaaDoor.Am
/- Plain law of the matcher: what it finds. -/
namespace Go.Proofs.YtflgpccacloadaaDoor.Am
open Go.RowKit
abbrev Bd := List (ByteArray × ByteArray)
def isV (s : ByteArray) : Bool := decide (1 ≤ s.size) && ((s.extract 0 1).toList == (⟨#[63]⟩ : ByteArray).toList)
theorem variable_eq (s : ByteArray) : M_datalog_variable s = some (isV s) := by
  unfold M_datalog_variable M_strings_HasPrefix M_internal_stringslite_HasPrefix isV
  have h1 : (⟨#[63]⟩ : ByteArray).size = 1 := rfl
  rw [h1]
  by_cases h : 1 ≤ s.size
  · rw [decide_eq_true (show (s.size : Int) ≥ ((1 : Nat) : Int) by omega), decide_eq_true h]
    simp [sel, ob1, grd, h]
  · rw [decide_eq_false (show ¬ (s.size : Int) ≥ ((1 : Nat) : Int) by omega), decide_eq_false h]
    rfl
/-- a term under a binding -/
def tB (b : Bd) (s : ByteArray) : Option ByteArray := if isV s then getM b s else some s
theorem term_eq (m : GMat) (s : ByteArray) : M_stratagem_datalog_matcher_term m s = some ((tB m.bind s).getD (⟨#[]⟩ : ByteArray), (tB m.bind s).isSome, m) := by
  unfold M_stratagem_datalog_matcher_term tB
  rw [variable_eq, ob1_some]
  cases isV s <;> rfl
/-- do the pairs differ, as far as they are known? -/
def difP (b : Bd) (p : ByteArray × ByteArray) : Bool :=
  match tB b p.1, tB b p.2 with
  | some x, some y => decide (x ≠ y)
  | _, _ => true
def dif (b : Bd) (un : List (ByteArray × ByteArray)) : Bool := un.all (difP b)
theorem dropC {α : Type} {l : List α} {i : Nat} {y : α} (h : l[i]? = some y) : l.drop i = y :: l.drop (i + 1) := by
  obtain ⟨hi, rfl⟩ := List.getElem?_eq_some_iff.1 h
  exact List.drop_eq_getElem_cons hi
theorem differ_loop (m : GMat) (hl : m.unequal.length ≤ 4611686018427387904) : ∀ (k i : Nat), i + k = m.unequal.length + 1 → i ≤ m.unequal.length → M_stratagem_datalog_matcher_differ_L1 m k m (i : Int) = some ((m.unequal.drop i).all (difP m.bind), m) := by
  intro k
  induction k with
  | zero => intro i h1 h2; omega
  | succ k ih =>
    intro i h1 h2
    rw [M_stratagem_datalog_matcher_differ_L1]
    by_cases h : i < m.unequal.length
    · have hy := List.getElem?_eq_getElem h
      rw [show decide ((i : Int) < ((m.unequal.map cA2_cS).length : Int)) = true by simp; omega]
      show ix m.unequal (i : Int) _ = _
      rw [ix_at hy, term_eq, ob3_some, term_eq, ob3_some, dropC hy, List.all_cons, wrap_eq (by omega) (by omega)]
      have := ih (i + 1) (by omega) (by omega)
      rw [show ((i + 1 : Nat) : Int) = (i : Int) + 1 from rfl] at this
      rw [this]
      unfold difP
      cases h1 : tB m.bind m.unequal[i].1 with
      | none => rfl
      | some x =>
        cases h2 : tB m.bind m.unequal[i].2 with
        | none => rfl
        | some y =>
          simp only [Option.isSome_some, Option.getD_some]
          rw [beq_bl]
          by_cases e : x = y
          · simp [e, sel]
          · simp [e, sel]
    · rw [show decide ((i : Int) < ((m.unequal.map cA2_cS).length : Int)) = false by simp; omega]
      rw [List.drop_of_length_le (by omega)]
      rfl
theorem differ_eq (m : GMat) (hl : m.unequal.length ≤ 4611686018427387904) : M_stratagem_datalog_matcher_differ m = some (dif m.bind m.unequal, m) := by
  unfold M_stratagem_datalog_matcher_differ
  have := differ_loop m hl (m.unequal.length + 1) 0 (by omega) (Nat.zero_le _)
  rw [show (((m.unequal.map cA2_cS).length : Int)).toNat + 1 = m.unequal.length + 1 by simp]
  exact this
/-- an atom and a fact: the variables that are bound, whether they fit, the binding -/
def uni : Bd → List ByteArray → List ByteArray → List ByteArray → List ByteArray × Bool × Bd
  | b, fr, s :: r, c :: q =>
    match tB b s with
    | none => uni (setM b s c) (fr ++ [s]) r q
    | some x => if x = c then uni b fr r q else (fr, false, b)
  | b, fr, _, _ => (fr, true, b)
theorem unify_loop (a f : GAtom) (hlen : a.Args.length = f.Args.length) (hb : a.Args.length * 16 ≤ 140737488355328) : ∀ (k i : Nat) (m : GMat) (fr : List ByteArray), i + k = a.Args.length + 1 → i ≤ a.Args.length → fr.length ≤ i →
    M_stratagem_datalog_matcher_unify_L1 a f k m (i : Int) fr = some ((uni m.bind fr (a.Args.drop i) (f.Args.drop i)).1, (uni m.bind fr (a.Args.drop i) (f.Args.drop i)).2.1, { m with bind := (uni m.bind fr (a.Args.drop i) (f.Args.drop i)).2.2 }) := by
  intro k
  induction k with
  | zero => intro i m fr h1 h2; omega
  | succ k ih =>
    intro i m fr h1 h2 h3
    rw [M_stratagem_datalog_matcher_unify_L1]
    by_cases h : i < a.Args.length
    · have hy := List.getElem?_eq_getElem h
      have hz := List.getElem?_eq_getElem (show i < f.Args.length by omega)
      rw [show decide ((i : Int) < ((a.Args.map cS).length : Int)) = true by simp; omega]
      show ix a.Args (i : Int) _ = _
      rw [ix_at hy, term_eq, ob3_some, dropC hy, dropC hz, uni, wrap_eq (by omega) (by omega)]
      cases ht : tB m.bind a.Args[i] with
      | none =>
        show ix f.Args (i : Int) _ = _
        rw [ix_at hz]
        refine grd_mk (by omega) ?_
        exact ih (i + 1) { m with bind := setM m.bind a.Args[i] f.Args[i] } (fr ++ [a.Args[i]]) (by omega) (by omega) (by simp; omega)
      | some x =>
        show ix f.Args (i : Int) _ = _
        rw [ix_at hz]
        simp only [Option.getD_some]
        rw [beq_bl, sel_not, sel_dec]
        by_cases e : x = f.Args[i]
        · rw [if_pos e, if_pos e]
          exact ih (i + 1) m fr (by omega) (by omega) (by omega)
        · rw [if_neg e, if_neg e]
          exact grd_mk (by omega) rfl
    · rw [show decide ((i : Int) < ((a.Args.map cS).length : Int)) = false by simp; omega]
      rw [List.drop_of_length_le (show a.Args.length ≤ i by omega)]
      refine grd_mk (by omega) ?_
      rw [uni]
      intro s r c q h; cases h
theorem unify_eq (a f : GAtom) (m : GMat) (hlen : a.Args.length = f.Args.length) (hb : a.Args.length * 16 ≤ 140737488355328) :
    M_stratagem_datalog_matcher_unify m a f = some ((uni m.bind [] a.Args f.Args).1, (uni m.bind [] a.Args f.Args).2.1, { m with bind := (uni m.bind [] a.Args f.Args).2.2 }) := by
  unfold M_stratagem_datalog_matcher_unify
  rw [show (((a.Args.map cS).length : Int)).toNat + 1 = a.Args.length + 1 by simp]
  exact unify_loop a f hlen hb (a.Args.length + 1) 0 m [] (by omega) (Nat.zero_le _) (Nat.le_refl _)
end Go.Proofs.YtflgpccacloadaaDoor.Am
/- Plain law of the matcher: the search as a list of bindings, each of which is worked off in turn. -/
namespace Go.Proofs.YtflgpccacloadaaDoor.Am
open Go.RowKit
theorem getM_absent {b : Bd} (hn : (b.map Prod.fst).Nodup) {s : ByteArray} (h : getM b s = none) : ∀ p ∈ b, p.1 ≠ s := fun p hp e => by
  have := (getM_mem (a := s) (v := p.2) hn).2 (by rw [← e]; exact hp)
  rw [h] at this
  cases this
theorem uni_ext : ∀ (xs cs : List ByteArray) (b : Bd) (fr : List ByteArray), (b.map Prod.fst).Nodup →
    ∃ zs : Bd, (uni b fr xs cs).1 = fr ++ zs.map Prod.fst ∧ (uni b fr xs cs).2.2 = b ++ zs ∧ ((b ++ zs).map Prod.fst).Nodup
  | [], cs, b, fr, hn => ⟨[], by simp [uni], by simp [uni], by simpa using hn⟩
  | s :: r, [], b, fr, hn => ⟨[], by simp [uni], by simp [uni], by simpa using hn⟩
  | s :: r, c :: q, b, fr, hn => by
    rw [uni]
    cases ht : tB b s with
    | none =>
      have hg : getM b s = none := by
        unfold tB at ht
        split at ht
        · exact ht
        · cases ht
      have ha := getM_absent hn hg
      rw [setM_none ha]
      have hn' : ((b ++ [(s, c)]).map Prod.fst).Nodup := by
        rw [List.map_append]
        refine List.nodup_append.2 ⟨hn, by simp, fun x hx y hy e => ?_⟩
        simp at hy
        obtain ⟨p, hp, rfl⟩ := List.mem_map.1 hx
        exact ha p hp (e.trans hy)
      obtain ⟨zs, h1, h2, h3⟩ := uni_ext r q (b ++ [(s, c)]) (fr ++ [s]) hn'
      exact ⟨(s, c) :: zs, by simp only []; rw [h1]; simp, by simp only []; rw [h2]; simp, by simpa using h3⟩
    | some x =>
      simp only []
      split
      · exact uni_ext r q b fr hn
      · exact ⟨[], by simp, by simp, by simpa using hn⟩
theorem delM_mid : ∀ (b : Bd) (k v : ByteArray) (r : Bd), (∀ p ∈ b, p.1 ≠ k) → delM (b ++ (k, v) :: r) k = b ++ r
  | [], k, v, r, _ => by rw [List.nil_append, delM, if_pos rfl]; rfl
  | (x, y) :: b, k, v, r, h => by
    rw [List.cons_append, delM, if_neg (h _ (List.mem_cons_self ..)), delM_mid b k v r (fun p hp => h p (List.mem_cons_of_mem _ hp))]
    rfl
theorem del_all : ∀ (zs b : Bd), ((b ++ zs).map Prod.fst).Nodup → (zs.map Prod.fst).foldl delM (b ++ zs) = b
  | [], b, _ => by simp
  | (k, v) :: r, b, h => by
    have hk : ∀ p ∈ b, p.1 ≠ k := fun p hp e => by
      rw [List.map_append] at h
      exact (List.nodup_append.1 h).2.2 p.1 (List.mem_map.2 ⟨p, hp, rfl⟩) k (by simp) e
    rw [List.map_cons, List.foldl_cons, delM_mid b k v r hk]
    refine del_all r b ?_
    have hs : ((b ++ r).map Prod.fst).Sublist ((b ++ (k, v) :: r).map Prod.fst) := List.Sublist.map _ ((List.Sublist.refl b).append (List.sublist_cons_self _ _))
    exact h.sublist hs
theorem del_loop (z : List ByteArray) (hl : z.length ≤ 4611686018427387904) : ∀ (k i : Nat) (m : GMat), i + k = z.length + 1 → i ≤ z.length → M_stratagem_datalog_matcher_from_L1 z k m (i : Int) = some { m with bind := (z.drop i).foldl delM m.bind } := by
  intro k
  induction k with
  | zero => intro i m h1 h2; omega
  | succ k ih =>
    intro i m h1 h2
    rw [M_stratagem_datalog_matcher_from_L1]
    by_cases h : i < z.length
    · have hy := List.getElem?_eq_getElem h
      rw [show decide ((i : Int) < ((z.map cS).length : Int)) = true by simp; omega]
      show ix z (i : Int) _ = _
      rw [ix_at hy, dropC hy, List.foldl_cons, wrap_eq (by omega) (by omega)]
      exact ih (i + 1) { m with bind := delM m.bind z[i] } (by omega) (by omega)
    · rw [show decide ((i : Int) < ((z.map cS).length : Int)) = false by simp; omega]
      rw [List.drop_of_length_le (by omega)]
      rfl
/-- the atoms of a form -/
def grp (S : GSet) (a : GAtom) : List GAtom := (getM (formsM S) (a.Name, ((a.Args.map cS).length : Int))).getD []
theorem formsM_spec (l : List GAtom) (q : ByteArray × Int) : (getM (formsM l) q).getD [] = l.filter (fun a => decide (keyF a = q)) := by
  have go : ∀ (l : List GAtom) (M : List ((ByteArray × Int) × List GAtom)), (getM (l.foldl addF M) q).getD [] = (getM M q).getD [] ++ l.filter (fun a => decide (keyF a = q)) := by
    intro l
    induction l with
    | nil => intro M; simp
    | cons a r ih =>
      intro M
      rw [List.foldl_cons, ih]
      have hset : ∀ (M : List ((ByteArray × Int) × List GAtom)) (k : ByteArray × Int) (v : List GAtom), getM (setM M k v) q = if k = q then some v else getM M q := by
        intro M k v
        induction M with
        | nil => rw [setM, getM]; split <;> simp [getM] <;> assumption
        | cons y s ih2 =>
          obtain ⟨b, u⟩ := y
          rw [setM]
          by_cases e : b = k
          · rw [if_pos e, getM, getM]
            by_cases e2 : k = q
            · rw [if_pos e2, if_pos e2]
            · rw [if_neg e2, if_neg e2, if_neg (fun e3 => e2 (e ▸ e3))]
          · rw [if_neg e, getM, getM, ih2]
            by_cases e2 : b = q
            · rw [if_pos e2, if_pos e2, if_neg (fun e3 => e (e2.trans e3.symm))]
            · rw [if_neg e2, if_neg e2]
      unfold addF
      rw [hset]
      by_cases e : keyF a = q
      · rw [if_pos e, List.filter_cons, if_pos (decide_eq_true e), e]
        simp
      · rw [if_neg e, List.filter_cons, if_neg (by simpa using e)]
  have := go l []
  simpa [formsM, getM] using this
theorem grp_eq (S : GSet) (a : GAtom) : grp S a = S.filter (fun f => decide (keyF f = keyF a)) := formsM_spec S _
theorem grp_mem {S : GSet} {a f : GAtom} : f ∈ grp S a ↔ f ∈ S ∧ f.Name = a.Name ∧ f.Args.length = a.Args.length := by
  rw [grp_eq, List.mem_filter, decide_eq_true_iff]
  unfold keyF
  simp only [Prod.mk.injEq, List.length_map]
  constructor
  · rintro ⟨h1, h2, h3⟩; exact ⟨h1, h2, by omega⟩
  · rintro ⟨h1, h2, h3⟩; exact ⟨h1, h2, by omega⟩
theorem grp_len (S : GSet) (a : GAtom) : (grp S a).length ≤ S.length := by rw [grp_eq]; exact List.length_filter_le _ _
/-- the bindings that the search finds, in order -/
def sols (S : GSet) (un : List (ByteArray × ByteArray)) : List GAtom → Bd → List Bd
  | [], b => if dif b un then [b] else []
  | a :: r, b => if dif b un then (grp S a).flatMap (fun f => if (uni b [] a.Args f.Args).2.1 then sols S un r (uni b [] a.Args f.Args).2.2 else []) else []
/-- the head under a binding, its key -/
def hatom (b : Bd) (h : GAtom) : GAtom := ⟨h.Name, h.Args.map (fun t => (tB b t).getD (⟨#[]⟩ : ByteArray))⟩
def ita (n : Nat) : ByteArray := ⟨(Lib.itoa (n : Int)).toArray⟩
def keyS (k x : ByteArray) : ByteArray := k ++ ((((⟨#[32]⟩ : ByteArray) ++ ita x.size) ++ (⟨#[32]⟩ : ByteArray)) ++ x)
def atomKey (a : GAtom) : ByteArray := a.Args.foldl keyS ((ita a.Name.size ++ (⟨#[32]⟩ : ByteArray)) ++ a.Name)
def KeyOk (a : GAtom) : Prop := (atomKey a).size ≤ 9223372036854775807 ∧ a.Args.length * 16 ≤ 140737488355328
theorem keyS_size (k x : ByteArray) : (keyS k x).size = k.size + ((⟨#[32]⟩ : ByteArray).size + (ita x.size).size + (⟨#[32]⟩ : ByteArray).size + x.size) := by
  unfold keyS
  simp only [ByteArray.size_append]
theorem foldK_size : ∀ (l : List ByteArray) (k : ByteArray), k.size ≤ (l.foldl keyS k).size
  | [], k => Nat.le_refl _
  | x :: r, k => by
    have := foldK_size r (keyS k x)
    rw [keyS_size] at this
    rw [List.foldl_cons]
    omega
theorem itoa_ok (n : Nat) (h : n ≤ 9223372036854775807) : M_Itoa (n : Int) = some (ita n) := grd_mk (by omega) rfl
theorem head_loop (a0 m : GMat) : ∀ (k i : Nat) (key : ByteArray) (args : List ByteArray), i + k = a0.rule.Head.Args.length + 1 → i ≤ a0.rule.Head.Args.length → args.length = i → a0.rule.Head.Args.length * 16 ≤ 140737488355328 →
    (((a0.rule.Head.Args.drop i).map (fun t => (tB m.bind t).getD (⟨#[]⟩ : ByteArray))).foldl keyS key).size ≤ 9223372036854775807 →
    M_datalog_round_1_L1 a0 k m key (i : Int) args = some { m with heads := setM m.heads (((a0.rule.Head.Args.drop i).map (fun t => (tB m.bind t).getD (⟨#[]⟩ : ByteArray))).foldl keyS key) ⟨a0.rule.Head.Name, args ++ (a0.rule.Head.Args.drop i).map (fun t => (tB m.bind t).getD (⟨#[]⟩ : ByteArray))⟩ } := by
  intro k
  induction k with
  | zero => intro i key args h1 h2; omega
  | succ k ih =>
    intro i key args h1 h2 h3 h4 h5
    rw [M_datalog_round_1_L1]
    by_cases h : i < a0.rule.Head.Args.length
    · have hy := List.getElem?_eq_getElem h
      rw [show decide ((i : Int) < ((a0.rule.Head.Args.map cS).length : Int)) = true by simp; omega]
      show ix a0.rule.Head.Args (i : Int) _ = _
      rw [ix_at hy, term_eq, ob3_some, dropC hy, List.map_cons, List.foldl_cons, wrap_eq (by omega) (by omega)]
      rw [dropC hy, List.map_cons, List.foldl_cons] at h5
      generalize hx : (tB m.bind a0.rule.Head.Args[i]).getD (⟨#[]⟩ : ByteArray) = x at h5 ⊢
      have h6 := foldK_size ((a0.rule.Head.Args.drop (i + 1)).map (fun t => (tB m.bind t).getD (⟨#[]⟩ : ByteArray))) (keyS key x)
      rw [keyS_size] at h6
      have h7 : (⟨#[32]⟩ : ByteArray).size = 1 := rfl
      refine grd_mk (by omega) ?_
      rw [itoa_ok x.size (by omega), ob1_some]
      refine grd_mk (by omega) (grd_mk (by simp only [ByteArray.size_append]; omega) (grd_mk (by simp only [ByteArray.size_append]; omega) (grd_mk (by simp only [ByteArray.size_append]; omega) ?_)))
      have := ih (i + 1) (keyS key x) (args ++ [x]) (by omega) (by omega) (by simp [h3]) h4 h5
      rw [List.append_assoc] at this
      exact this
    · rw [show decide ((i : Int) < ((a0.rule.Head.Args.map cS).length : Int)) = false by simp; omega]
      rw [List.drop_of_length_le (by omega)]
      refine grd_mk (by omega) ?_
      simp
theorem head_eq (m : GMat) (hk : KeyOk (hatom m.bind m.rule.Head)) : M_datalog_round_1 m = some { m with heads := setM m.heads (atomKey (hatom m.bind m.rule.Head)) (hatom m.bind m.rule.Head) } := by
  obtain ⟨h1, h2⟩ := hk
  unfold M_datalog_round_1
  have h3 := foldK_size (hatom m.bind m.rule.Head).Args ((ita m.rule.Head.Name.size ++ (⟨#[32]⟩ : ByteArray)) ++ m.rule.Head.Name)
  have h4 : (atomKey (hatom m.bind m.rule.Head)).size = ((hatom m.bind m.rule.Head).Args.foldl keyS ((ita m.rule.Head.Name.size ++ (⟨#[32]⟩ : ByteArray)) ++ m.rule.Head.Name)).size := rfl
  simp only [ByteArray.size_append] at h3
  rw [itoa_ok _ (by omega), ob1_some]
  refine grd_mk (by omega) (grd_mk (by simp only [ByteArray.size_append]; omega) ?_)
  rw [show (((m.rule.Head.Args.map cS).length : Int)).toNat + 1 = m.rule.Head.Args.length + 1 by simp]
  have h5 : m.rule.Head.Args.length * 16 ≤ 140737488355328 := by simpa [hatom] using h2
  exact head_loop m m (m.rule.Head.Args.length + 1) 0 _ [] (by omega) (Nat.zero_le _) rfl h5 (by rw [h4] at h1; exact h1)
end Go.Proofs.YtflgpccacloadaaDoor.Am
/- Plain law of the matcher: the search works off its bindings. -/
namespace Go.Proofs.YtflgpccacloadaaDoor.Am
open Go.RowKit
/-- a binding is worked off -/
def one (m : GMat) (b : Bd) : GMat :=
  if m.full = true then m else if m.left = 0 then { m with full := true } else { m with left := m.left - 1, heads := setM m.heads (atomKey (hatom b m.rule.Head)) (hatom b m.rule.Head) }
def eff (m : GMat) (l : List Bd) : GMat := l.foldl one m
theorem one_kept (m : GMat) (b : Bd) : (one m b).set = m.set ∧ (one m b).body = m.body ∧ (one m b).unequal = m.unequal ∧ (one m b).bind = m.bind ∧ (one m b).rule = m.rule := by
  unfold one
  split
  · exact ⟨rfl, rfl, rfl, rfl, rfl⟩
  · split <;> exact ⟨rfl, rfl, rfl, rfl, rfl⟩
theorem eff_kept : ∀ (l : List Bd) (m : GMat), (eff m l).set = m.set ∧ (eff m l).body = m.body ∧ (eff m l).unequal = m.unequal ∧ (eff m l).bind = m.bind ∧ (eff m l).rule = m.rule
  | [], m => ⟨rfl, rfl, rfl, rfl, rfl⟩
  | b :: r, m => by
    obtain ⟨h1, h2, h3, h4, h5⟩ := eff_kept r (one m b)
    obtain ⟨g1, g2, g3, g4, g5⟩ := one_kept m b
    exact ⟨h1.trans g1, h2.trans g2, h3.trans g3, h4.trans g4, h5.trans g5⟩
theorem one_bind (m : GMat) (b x : Bd) : one { m with bind := x } b = { one m b with bind := x } := by
  unfold one
  simp only []
  split
  · rfl
  · split <;> rfl
theorem eff_bind : ∀ (l : List Bd) (m : GMat) (x : Bd), eff { m with bind := x } l = { eff m l with bind := x }
  | [], _, _ => rfl
  | b :: r, m, x => by
    show eff (one { m with bind := x } b) r = _
    rw [one_bind]
    exact eff_bind r (one m b) x
theorem eff_app (m : GMat) (l l' : List Bd) : eff m (l ++ l') = eff (eff m l) l' := List.foldl_append
theorem eff_full : ∀ (l : List Bd) (m : GMat), m.full = true → eff m l = m
  | [], _, _ => rfl
  | b :: r, m, h => by
    show eff (one m b) r = m
    have : one m b = m := by unfold one; rw [if_pos h]
    rw [this]
    exact eff_full r m h
theorem one_left (m : GMat) (b : Bd) (h : 0 ≤ m.left) (n : Int) (hn : m.left ≤ n) : 0 ≤ (one m b).left ∧ (one m b).left ≤ n := by
  unfold one
  split
  · exact ⟨h, hn⟩
  · split
    · exact ⟨h, hn⟩
    · simp only []; omega
theorem eff_left (n : Int) : ∀ (l : List Bd) (m : GMat), 0 ≤ m.left → m.left ≤ n → 0 ≤ (eff m l).left ∧ (eff m l).left ≤ n
  | [], m, h1, h2 => ⟨h1, h2⟩
  | b :: r, m, h1, h2 => by
    obtain ⟨g1, g2⟩ := one_left m b h1 n h2
    exact eff_left n r (one m b) g1 g2
theorem uni_len : ∀ (xs cs : List ByteArray) (b : Bd) (fr : List ByteArray), (uni b fr xs cs).1.length ≤ fr.length + xs.length
  | [], cs, b, fr => by simp [uni]
  | s :: r, [], b, fr => by simp [uni]
  | s :: r, c :: q, b, fr => by
    rw [uni]
    cases tB b s with
    | none =>
      have := uni_len r q (setM b s c) (fr ++ [s])
      simp only [List.length_append, List.length_cons, List.length_nil] at this ⊢
      omega
    | some x =>
      simp only []
      split
      · have := uni_len r q b fr
        simp only [List.length_cons]
        omega
      · simp
theorem setb (E : GMat) (x : Bd) (h : E.bind = x) : { E with bind := x } = E := by subst h; rfl
/-- what the search asks -/
structure FrOk (m : GMat) : Prop where
  un : m.unequal.length ≤ 4611686018427387904
  set : m.set.length ≤ 4611686018427387904
  left0 : 0 ≤ m.left
  left1 : m.left ≤ 4611686018427387904
  bnd : (m.bind.map Prod.fst).Nodup
  body : m.body.length ≤ 4611686018427387904
  args : ∀ a ∈ m.body, a.Args.length * 16 ≤ 140737488355328
theorem from_eq : ∀ (r : List GAtom) (g k : Nat) (m : GMat), FrOk m → r = m.body.drop k → k ≤ m.body.length → r.length < g → (∀ b ∈ sols m.set m.unequal r m.bind, KeyOk (hatom b m.rule.Head)) →
    M_stratagem_datalog_matcher_from g m (k : Int) = some (eff m (sols m.set m.unequal r m.bind)) := by
  intro r
  induction r with
  | nil =>
    intro g k m hok hr hk hg hkey
    obtain ⟨g, rfl⟩ : ∃ g', g = g' + 1 := ⟨g - 1, by omega⟩
    rw [M_stratagem_datalog_matcher_from, differ_eq m hok.un]
    have hkl : k = m.body.length := by
      have := congrArg List.length hr
      rw [List.length_drop] at this
      simp at this
      omega
    cases hf : m.full with
    | true => rw [eff_full _ _ hf]; rfl
    | false =>
      cases hd : dif m.bind m.unequal with
      | false => simp only [sols, hd]; rfl
      | true =>
        have hs : sols m.set m.unequal [] m.bind = [m.bind] := by simp [sols, hd]
        rw [hs] at hkey ⊢
        show sel ((k : Int) == ((m.body.map cGAtom).length : Int)) _ _ = _
        rw [beq_int, decide_eq_true (by rw [List.length_map, hkl])]
        show sel (m.left == 0) _ _ = _
        rw [beq_int, sel_dec]
        show _ = some (one m m.bind)
        rw [show one m m.bind = if m.left = 0 then { m with full := true } else { m with left := m.left - 1, heads := setM m.heads (atomKey (hatom m.bind m.rule.Head)) (hatom m.bind m.rule.Head) } by unfold one; rw [if_neg (by rw [hf]; decide)]]
        by_cases hl : m.left = 0
        · rw [if_pos hl, if_pos hl]
        · rw [if_neg hl, if_neg hl, wrap_eq (by have := hok.left0; omega) (by have := hok.left1; omega)]
          have h9 := head_eq { m with left := m.left - 1 } (hkey _ (List.mem_singleton.2 rfl))
          show ob1 (M_datalog_round_1 { m with left := m.left - 1 }) _ = _
          rw [h9]
          rfl
  | cons a r ih =>
    intro g k m hok hr hk hg hkey
    obtain ⟨g, rfl⟩ : ∃ g', g = g' + 1 := ⟨g - 1, by omega⟩
    rw [M_stratagem_datalog_matcher_from, differ_eq m hok.un]
    have hklt : k < m.body.length := by
      have := congrArg List.length hr
      rw [List.length_drop] at this
      simp at this
      omega
    have hat : m.body[k]? = some a := by
      have := congrArg (fun l => l[0]?) hr
      simp only [List.getElem?_cons_zero, List.getElem?_drop, Nat.add_zero] at this
      exact this.symm
    have hrest : r = m.body.drop (k + 1) := by
      have := congrArg List.tail hr
      simpa [List.tail_drop] using this
    have ham := List.mem_of_getElem? hat
    cases hf : m.full with
    | true => rw [eff_full _ _ hf]; rfl
    | false =>
      cases hd : dif m.bind m.unequal with
      | false => simp only [sols, hd]; rfl
      | true =>
        have hs : sols m.set m.unequal (a :: r) m.bind = (grp m.set a).flatMap (fun f => if (uni m.bind [] a.Args f.Args).2.1 then sols m.set m.unequal r (uni m.bind [] a.Args f.Args).2.2 else []) := by simp [sols, hd]
        rw [hs] at hkey ⊢
        show sel ((k : Int) == ((m.body.map cGAtom).length : Int)) _ _ = _
        rw [beq_int, decide_eq_false (by rw [List.length_map]; omega)]
        show ix m.body (k : Int) _ = _
        rw [ix_at hat]
        have hG : (getM (formsM m.set) (a.Name, ((a.Args.map cS).length : Int))).getD [] = grp m.set a := rfl
        rw [hG]
        have hGl := grp_len m.set a
        have hset := hok.set
        generalize hGd : grp m.set a = G at hkey hGl ⊢
        have hGm : ∀ f ∈ G, a.Args.length = f.Args.length := fun f hf => (grp_mem.1 (by rw [hGd]; exact hf)).2.2.symm
        -- the loop over the facts
        have loop : ∀ (n i : Nat) (v : GMat), i + n = G.length + 1 → i ≤ G.length → v = eff m ((G.take i).flatMap (fun f => if (uni m.bind [] a.Args f.Args).2.1 then sols m.set m.unequal r (uni m.bind [] a.Args f.Args).2.2 else [])) →
            M_stratagem_datalog_matcher_from_L2 (k : Int) (M_stratagem_datalog_matcher_from g) m a n v (i : Int) = some (eff m (G.flatMap (fun f => if (uni m.bind [] a.Args f.Args).2.1 then sols m.set m.unequal r (uni m.bind [] a.Args f.Args).2.2 else []))) := by
          intro n
          induction n with
          | zero => intro i v h1 h2; omega
          | succ n ihn =>
            intro i v h1 h2 hv
            rw [M_stratagem_datalog_matcher_from_L2, hG, hGd]
            by_cases hi : i < G.length
            · have hy := List.getElem?_eq_getElem hi
              have hGi := hGm _ (List.getElem_mem hi)
              rw [show decide ((i : Int) < ((G.map cGAtom).length : Int)) = true by simp; omega]
              show ob1 (ix G (i : Int) _) _ = _
              rw [ix_at hy]
              obtain ⟨v1, v2, v3, v4, v5⟩ := eff_kept ((G.take i).flatMap (fun f => if (uni m.bind [] a.Args f.Args).2.1 then sols m.set m.unequal r (uni m.bind [] a.Args f.Args).2.2 else [])) m
              rw [← hv] at v1 v2 v3 v4 v5
              obtain ⟨vl0, vl1⟩ := eff_left 4611686018427387904 ((G.take i).flatMap (fun f => if (uni m.bind [] a.Args f.Args).2.1 then sols m.set m.unequal r (uni m.bind [] a.Args f.Args).2.2 else [])) m hok.left0 hok.left1
              rw [← hv] at vl0 vl1
              rw [unify_eq a G[i] v hGi (hok.args a ham), ob3_some, v4]
              obtain ⟨zs, e1, e2, e3⟩ := uni_ext a.Args G[i].Args m.bind [] hok.bnd
              have htk : G.take (i + 1) = G.take i ++ [G[i]] := by rw [List.take_add_one, hy]; rfl
              -- what this fact adds
              have hstep : (sel (uni m.bind [] a.Args G[i].Args).2.1 (ob1 (M_stratagem_datalog_matcher_from g { v with bind := (uni m.bind [] a.Args G[i].Args).2.2 } (IntKind.i64.wrap ((k : Int) + 1))) (fun c => some c)) (some { v with bind := (uni m.bind [] a.Args G[i].Args).2.2 }) : Option GMat) =
                  some { eff v (if (uni m.bind [] a.Args G[i].Args).2.1 then sols m.set m.unequal r (uni m.bind [] a.Args G[i].Args).2.2 else []) with bind := (uni m.bind [] a.Args G[i].Args).2.2 } := by
                cases hu : (uni m.bind [] a.Args G[i].Args).2.1 with
                | false => rfl
                | true =>
                  rw [wrap_eq (by omega) (by have := hok.body; omega)]
                  have hb' : ((uni m.bind [] a.Args G[i].Args).2.2.map Prod.fst).Nodup := by rw [e2]; exact e3
                  have hsol : sols v.set v.unequal r (uni m.bind [] a.Args G[i].Args).2.2 = sols m.set m.unequal r (uni m.bind [] a.Args G[i].Args).2.2 := by rw [v1, v3]
                  have h9 : M_stratagem_datalog_matcher_from g { v with bind := (uni m.bind [] a.Args G[i].Args).2.2 } ((k + 1 : Nat) : Int) = some (eff { v with bind := (uni m.bind [] a.Args G[i].Args).2.2 } (sols v.set v.unequal r (uni m.bind [] a.Args G[i].Args).2.2)) :=
                    ih g (k + 1) { v with bind := (uni m.bind [] a.Args G[i].Args).2.2 } ⟨by show v.unequal.length ≤ _; rw [v3]; exact hok.un, by show v.set.length ≤ _; rw [v1]; exact hok.set, vl0, vl1, hb', by show v.body.length ≤ _; rw [v2]; exact hok.body, by show ∀ a ∈ v.body, _; rw [v2]; exact hok.args⟩ (by show r = v.body.drop _; rw [v2]; exact hrest) (by show k + 1 ≤ v.body.length; rw [v2]; omega) (by simp at hg; omega)
                      (by
                        show ∀ b ∈ sols v.set v.unequal r (uni m.bind [] a.Args G[i].Args).2.2, KeyOk (hatom b v.rule.Head)
                        rw [hsol, v5]
                        intro b hb
                        refine hkey b (List.mem_flatMap.2 ⟨G[i], List.getElem_mem hi, ?_⟩)
                        rw [if_pos hu]
                        exact hb)
                  rw [hsol, eff_bind] at h9
                  show ob1 (M_stratagem_datalog_matcher_from g _ ((k + 1 : Nat) : Int)) _ = _
                  rw [h9, ob1_some]
                  rfl
              have hfold : G.flatMap (fun f => if (uni m.bind [] a.Args f.Args).2.1 then sols m.set m.unequal r (uni m.bind [] a.Args f.Args).2.2 else []) = (G.take (i + 1)).flatMap (fun f => if (uni m.bind [] a.Args f.Args).2.1 then sols m.set m.unequal r (uni m.bind [] a.Args f.Args).2.2 else []) ++ (G.drop (i + 1)).flatMap (fun f => if (uni m.bind [] a.Args f.Args).2.1 then sols m.set m.unequal r (uni m.bind [] a.Args f.Args).2.2 else []) := by
                rw [← List.flatMap_append, List.take_append_drop]
              have hv' : eff v (if (uni m.bind [] a.Args G[i].Args).2.1 then sols m.set m.unequal r (uni m.bind [] a.Args G[i].Args).2.2 else []) = eff m ((G.take (i + 1)).flatMap (fun f => if (uni m.bind [] a.Args f.Args).2.1 then sols m.set m.unequal r (uni m.bind [] a.Args f.Args).2.2 else [])) := by
                rw [htk, List.flatMap_append, eff_app, ← hv, List.flatMap_singleton]
              obtain ⟨w1, w2, w3, w4, w5⟩ := eff_kept (if (uni m.bind [] a.Args G[i].Args).2.1 then sols m.set m.unequal r (uni m.bind [] a.Args G[i].Args).2.2 else []) v
              have hdel : { eff v (if (uni m.bind [] a.Args G[i].Args).2.1 then sols m.set m.unequal r (uni m.bind [] a.Args G[i].Args).2.2 else []) with bind := ((uni m.bind [] a.Args G[i].Args).1.drop 0).foldl delM (uni m.bind [] a.Args G[i].Args).2.2 } = eff v (if (uni m.bind [] a.Args G[i].Args).2.1 then sols m.set m.unequal r (uni m.bind [] a.Args G[i].Args).2.2 else []) := by
                rw [List.drop_zero, e1, e2, List.nil_append, del_all zs m.bind e3]
                exact setb _ _ (by rw [← e2]; exact w4.trans v4)
              have hul := uni_len a.Args G[i].Args m.bind []
              have hal := hok.args a ham
              simp only [List.length_nil, Nat.zero_add] at hul
              have hone : (ob1 (sel (uni m.bind [] a.Args G[i].Args).2.1 (ob1 (M_stratagem_datalog_matcher_from g { v with bind := (uni m.bind [] a.Args G[i].Args).2.2 } (IntKind.i64.wrap ((k : Int) + 1))) (fun c => some c)) (some { v with bind := (uni m.bind [] a.Args G[i].Args).2.2 }) : Option GMat)
                  (fun v189 => ob1 (M_stratagem_datalog_matcher_from_L1 (uni m.bind [] a.Args G[i].Args).1 (((((uni m.bind [] a.Args G[i].Args).1.map cS).length : Int)).toNat + 1) v189 0 : Option GMat)
                   (fun v203 => sel v203.full (some (.inr v203)) (some (.inl v203)))) : Option (GMat ⊕ GMat)) = sel (eff v (if (uni m.bind [] a.Args G[i].Args).2.1 then sols m.set m.unequal r (uni m.bind [] a.Args G[i].Args).2.2 else [])).full (some (.inr (eff v (if (uni m.bind [] a.Args G[i].Args).2.1 then sols m.set m.unequal r (uni m.bind [] a.Args G[i].Args).2.2 else [])))) (some (.inl (eff v (if (uni m.bind [] a.Args G[i].Args).2.1 then sols m.set m.unequal r (uni m.bind [] a.Args G[i].Args).2.2 else [])))) := by
                rw [hstep, ob1_some, show (((((uni m.bind [] a.Args G[i].Args).1.map cS).length : Int)).toNat + 1) = (uni m.bind [] a.Args G[i].Args).1.length + 1 by simp]
                have := del_loop (uni m.bind [] a.Args G[i].Args).1 (by omega) ((uni m.bind [] a.Args G[i].Args).1.length + 1) 0 { eff v (if (uni m.bind [] a.Args G[i].Args).2.1 then sols m.set m.unequal r (uni m.bind [] a.Args G[i].Args).2.2 else []) with bind := (uni m.bind [] a.Args G[i].Args).2.2 } (by omega) (Nat.zero_le _)
                rw [show ((0 : Nat) : Int) = 0 from rfl] at this
                rw [this, ob1_some]
                show sel ({ eff v (if (uni m.bind [] a.Args G[i].Args).2.1 then sols m.set m.unequal r (uni m.bind [] a.Args G[i].Args).2.2 else []) with bind := ((uni m.bind [] a.Args G[i].Args).1.drop 0).foldl delM (uni m.bind [] a.Args G[i].Args).2.2 } : GMat).full _ _ = _
                rw [hdel]
              show ob1 (ob1 (sel _ _ _) _) _ = _
              rw [hone, hfold, eff_app, ← hv']
              cases hfu : (eff v (if (uni m.bind [] a.Args G[i].Args).2.1 then sols m.set m.unequal r (uni m.bind [] a.Args G[i].Args).2.2 else [])).full with
              | true =>
                show some (eff v _) = _
                rw [eff_full _ _ hfu]
              | false =>
                show M_stratagem_datalog_matcher_from_L2 _ _ _ _ n (eff v _) (IntKind.i64.wrap ((i : Int) + 1)) = _
                rw [wrap_eq (by omega) (by omega)]
                have := ihn (i + 1) (eff v (if (uni m.bind [] a.Args G[i].Args).2.1 then sols m.set m.unequal r (uni m.bind [] a.Args G[i].Args).2.2 else [])) (by omega) (by omega) hv'
                rw [hfold, eff_app, ← hv'] at this
                exact this
            · rw [show decide ((i : Int) < ((G.map cGAtom).length : Int)) = false by simp; omega]
              show some v = _
              rw [hv, List.take_of_length_le (by omega)]
        rw [show (((((G.map cGAtom).length : Int)).toNat) + 1) = G.length + 1 by simp]
        exact loop (G.length + 1) 0 m (by omega) (Nat.zero_le _) rfl
end Go.Proofs.YtflgpccacloadaaDoor.Am
/- Plain law: equal neighbours are dropped; the set that is made of a list. -/
namespace Go.Proofs.YtflgpccacloadaaDoor.Am
open Go.RowKit
theorem eqS_loop (a b : List ByteArray) (hl : a.length = b.length) (hb : a.length ≤ 4611686018427387904) : ∀ (k i : Nat), i + k = a.length + 1 → i ≤ a.length → M_s_Equal_string_L1 a b k (i : Int) = some (decide (a.drop i = b.drop i)) := by
  intro k
  induction k with
  | zero => intro i h1 h2; omega
  | succ k ih =>
    intro i h1 h2
    rw [M_s_Equal_string_L1]
    by_cases h : i < a.length
    · have hy := List.getElem?_eq_getElem h
      have hz := List.getElem?_eq_getElem (show i < b.length by omega)
      rw [show decide ((i : Int) < ((a.map cS).length : Int)) = true by simp; omega]
      show ix a (i : Int) _ = _
      rw [ix_at hy]
      show ix b (i : Int) _ = _
      rw [ix_at hz, beq_bl, sel_not, sel_dec, dropC hy, dropC hz]
      by_cases e : a[i] = b[i]
      · rw [if_pos e, wrap_eq (by omega) (by omega)]
        have := ih (i + 1) (by omega) (by omega)
        rw [show ((i + 1 : Nat) : Int) = (i : Int) + 1 from rfl] at this
        rw [this, e]
        exact congrArg some (decide_eq_decide.2 ⟨fun h => by rw [h], fun h => (List.cons.inj h).2⟩)
      · rw [if_neg e]
        exact congrArg some (decide_eq_false (fun h => e (List.cons.inj h).1)).symm
    · rw [show decide ((i : Int) < ((a.map cS).length : Int)) = false by simp; omega]
      rw [List.drop_of_length_le (by omega), List.drop_of_length_le (by omega)]
      rfl
theorem eqS_eq (a b : List ByteArray) (hb : a.length ≤ 4611686018427387904) (hb2 : b.length ≤ 4611686018427387904) : M_s_Equal_string a b = some (decide (a = b)) := by
  unfold M_s_Equal_string
  rw [show (((a.map cS).length : Int) != ((b.map cS).length : Int)) = !decide (a.length = b.length) by rw [bne, beq_int, List.length_map, List.length_map]; exact congrArg not (decide_eq_decide.2 (by omega)), sel_not, sel_dec]
  by_cases e : a.length = b.length
  · rw [if_pos e, show (((a.map cS).length : Int)).toNat + 1 = a.length + 1 by simp]
    have := eqS_loop a b e hb (a.length + 1) 0 (by omega) (Nat.zero_le _)
    rw [List.drop_zero, List.drop_zero] at this
    exact this
  · rw [if_neg e, decide_eq_false (fun h => e (by rw [h]))]
theorem same_eq (x y : GAtom) (hx : x.Args.length ≤ 4611686018427387904) (hy : y.Args.length ≤ 4611686018427387904) : M_datalog_sameAtom x y = some (decide (x = y)) := by
  unfold M_datalog_sameAtom
  rw [beq_bl, sel_dec, eqS_eq _ _ hx hy, ob1_some]
  obtain ⟨n, a⟩ := x
  obtain ⟨n', a'⟩ := y
  by_cases e : n = n'
  · subst e
    rw [if_pos rfl]
    simp
  · rw [if_neg e]
    simp [e]
/-- equal neighbours dropped -/
def cpS (out : List GAtom) (x : GAtom) : List GAtom := if out.getLast? = some x then out else out ++ [x]
def cp (l : List GAtom) : List GAtom := l.foldl cpS []
theorem cp_snoc (l : List GAtom) (x : GAtom) : cp (l ++ [x]) = cpS (cp l) x := by unfold cp; rw [List.foldl_append]; rfl
theorem cpS_last (out : List GAtom) (x : GAtom) : (cpS out x).getLast? = some x := by
  unfold cpS
  split
  · assumption
  · simp
theorem take_at {α : Type} {l : List α} {i : Nat} {y : α} (h : l[i]? = some y) : l.take (i + 1) = l.take i ++ [y] := by rw [List.take_add_one, h]; rfl
theorem cp_last {l : List GAtom} {i : Nat} {y : GAtom} (h : l[i]? = some y) : (cp (l.take (i + 1))).getLast? = some y := by rw [take_at h, cp_snoc]; exact cpS_last _ _
section
variable (l : List GAtom) (hA : ∀ a ∈ l, a.Args.length ≤ 4611686018427387904) (hl : l.length ≤ 4611686018427387904)
include hA hl
theorem cpL1 (i0 : Nat) (h0 : 1 ≤ i0) : ∀ (k k2 : Nat) (c : List GAtom), l.length + 1 ≤ i0 + k2 + k → 1 ≤ k2 → i0 + k2 ≤ l.length → c = cp (l.take (i0 + k2)) → c.length + 1 ≤ i0 + k2 →
    ∃ cur : List GAtom, M_s_CompactFunc_Atom_L1 l M_datalog_sameAtom (i0 : Int) k (c.length : Int) (k2 : Int) (c ++ l.drop c.length) = some (((cp l).length : Int), cur) ∧ cur.length = l.length ∧ cur.take (cp l).length = cp l ∧ (cp l).length < l.length := by
  intro k
  induction k with
  | zero => intro k2 c h1 h2 h3; omega
  | succ k ih =>
    intro k2 c h1 h2 h3 hc hcl
    rw [M_s_CompactFunc_Atom_L1]
    have hn : (((l.length - ((i0 : Nat) : Int).toNat : Nat)) : Int) = (l.length : Int) - i0 := by rw [Int.toNat_natCast]; omega
    by_cases h : i0 + k2 < l.length
    · have hy := List.getElem?_eq_getElem h
      have hz := List.getElem?_eq_getElem (show i0 + k2 - 1 < l.length by omega)
      have g1 : (c ++ l.drop c.length)[i0 + k2]? = some l[i0 + k2] := by rw [List.getElem?_append_right (by omega), List.getElem?_drop, show c.length + (i0 + k2 - c.length) = i0 + k2 by omega]; exact hy
      have g2 : (c ++ l.drop c.length)[i0 + (k2 - 1)]? = some l[i0 + k2 - 1] := by rw [List.getElem?_append_right (by omega), List.getElem?_drop, show c.length + (i0 + (k2 - 1) - c.length) = i0 + k2 - 1 by omega]; exact hz
      have hw : IntKind.i64.wrap ((k2 : Int) - 1) = ((k2 - 1 : Nat) : Int) := by rw [wrap_eq (by omega) (by omega)]; omega
      have hlast : c.getLast? = some l[i0 + k2 - 1] := by
        have := cp_last hz
        rw [show i0 + k2 - 1 + 1 = i0 + k2 by omega, ← hc] at this
        exact this
      rw [hn, decide_eq_true (show ((k2 : Nat) : Int) < (l.length : Int) - i0 by omega), hw, Int.toNat_natCast, Int.toNat_natCast, Int.toNat_natCast, Int.toNat_natCast]
      show ∃ cur, ixn _ _ _ = _ ∧ _
      unfold ixn
      rw [g1]
      simp only []
      rw [g2]
      simp only []
      rw [same_eq _ _ (hA _ (List.getElem_mem h)) (hA _ (List.getElem_mem _)), ob1_some]
      have hstep : cp (l.take (i0 + (k2 + 1))) = cpS c l[i0 + k2] := by rw [show i0 + (k2 + 1) = i0 + k2 + 1 from rfl, take_at hy, cp_snoc, ← hc]
      have hg : ∀ (x : Option (Int × List GAtom)), grd (0 ≤ ((k2 : Nat) : Int)) (grd (((k2 : Nat) : Int) < (l.length : Int) - i0) (grd (0 ≤ (((k2 - 1 : Nat)) : Int)) (grd ((((k2 - 1 : Nat)) : Int) < (l.length : Int) - i0) x))) = x := fun x => grd_mk (by omega) (grd_mk (by omega) (grd_mk (by omega) (grd_mk (by omega) rfl)))
      rw [hg, sel_not, sel_dec, wrap_eq (show -9223372036854775808 ≤ ((k2 : Nat) : Int) + 1 by omega) (by omega)]
      by_cases e : l[i0 + k2] = l[i0 + k2 - 1]
      · rw [if_pos e]
        have hcp : cpS c l[i0 + k2] = c := by unfold cpS; rw [if_pos (by rw [hlast, e])]
        exact ih (k2 + 1) c (by omega) (by omega) (by omega) (by rw [hstep, hcp]) (by omega)
      · rw [if_neg e]
        have hcp : cpS c l[i0 + k2] = c ++ [l[i0 + k2]] := by unfold cpS; rw [if_neg (by rw [hlast]; intro q; exact e (Option.some.inj q).symm)]
        have hcn : c.length < (c ++ l.drop c.length).length := by simp; omega
        have hset : (c ++ l.drop c.length).set c.length l[i0 + k2] = (c ++ [l[i0 + k2]]) ++ l.drop (c ++ [l[i0 + k2]]).length := by
          rw [List.set_append_right _ _ (Nat.le_refl _), Nat.sub_self, List.drop_eq_getElem_cons (show c.length < l.length by omega), List.set_cons_zero]
          simp
        rw [List.getElem?_eq_getElem hcn]
        simp only []
        have hg2 : ∀ (x : Option (Int × List GAtom)), grd (0 ≤ ((c.length : Nat) : Int)) (grd (((c.length : Nat) : Int) < (((c ++ l.drop c.length).length : Nat) : Int)) x) = x := fun x => grd_mk (by omega) (grd_mk (by omega) rfl)
        rw [hg2, hset, wrap_eq (show -9223372036854775808 ≤ ((c.length : Nat) : Int) + 1 by omega) (by omega)]
        have := ih (k2 + 1) (c ++ [l[i0 + k2]]) (by omega) (by omega) (by omega) (by rw [hstep, hcp]) (by simp; omega)
        rw [show (((c ++ [l[i0 + k2]]).length : Nat) : Int) = ((c.length : Nat) : Int) + 1 by simp] at this
        exact this
    · have he : i0 + k2 = l.length := by omega
      rw [hn, decide_eq_false (show ¬ ((k2 : Nat) : Int) < (l.length : Int) - i0 by omega)]
      have hcl2 : c = cp l := by rw [hc, he, List.take_length]
      refine ⟨c ++ l.drop c.length, by rw [← hcl2]; rfl, by simp; omega, by rw [← hcl2]; simp, by rw [← hcl2]; omega⟩
theorem cpL2 (g : Nat) (hg : l.length < g) : ∀ (k i : Nat), l.length + 1 ≤ i + k → 1 ≤ i → i ≤ l.length → cp (l.take i) = l.take i → M_s_CompactFunc_Atom_L2 l M_datalog_sameAtom g k (i : Int) = some (cp l) := by
  intro k
  induction k with
  | zero => intro i h1 h2 h3; omega
  | succ k ih =>
    intro i h1 h2 h3 hc
    rw [M_s_CompactFunc_Atom_L2]
    by_cases h : i < l.length
    · have hy := List.getElem?_eq_getElem h
      have hz := List.getElem?_eq_getElem (show i - 1 < l.length by omega)
      have hw : IntKind.i64.wrap ((i : Int) - 1) = ((i - 1 : Nat) : Int) := by rw [wrap_eq (by omega) (by omega)]; omega
      have hlast : (l.take i).getLast? = some l[i - 1] := by
        have := cp_last hz
        rw [show i - 1 + 1 = i by omega, hc] at this
        exact this
      have hstep : cp (l.take (i + 1)) = cpS (l.take i) l[i] := by rw [take_at hy, cp_snoc, hc]
      rw [decide_eq_true (show (i : Int) < ((l.length : Nat) : Int) by omega), hw, Int.toNat_natCast, Int.toNat_natCast]
      show ob1 (ixn _ _ _) _ = _
      unfold ixn
      rw [hy]
      simp only []
      rw [hz]
      simp only []
      rw [same_eq _ _ (hA _ (List.getElem_mem h)) (hA _ (List.getElem_mem _)), ob1_some]
      have hgr : ∀ (x : Option (Unit ⊕ List GAtom)), grd (0 ≤ ((i : Nat) : Int)) (grd (((i : Nat) : Int) < ((l.length : Nat) : Int)) (grd (0 ≤ (((i - 1 : Nat)) : Int)) (grd ((((i - 1 : Nat)) : Int) < ((l.length : Nat) : Int)) x))) = x := fun x => grd_mk (by omega) (grd_mk (by omega) (grd_mk (by omega) (grd_mk (by omega) rfl)))
      rw [hgr, sel_dec]
      by_cases e : l[i] = l[i - 1]
      · rw [if_pos e]
        have hcp : cp (l.take (i + 1)) = l.take i := by rw [hstep]; unfold cpS; rw [if_pos (by rw [hlast, e])]
        have hlt : (l.take i).length = i := by rw [List.length_take]; omega
        obtain ⟨cur, q1, q2, q3, q4⟩ := cpL1 l hA hl i h2 g 1 (l.take i) (by omega) (Nat.le_refl _) (by omega) hcp.symm (by omega)
        rw [hlt, List.take_append_drop] at q1
        have hin : (grd (i ≤ l.length) (ob1 (M_s_CompactFunc_Atom_L1 l M_datalog_sameAtom (i : Int) g (i : Int) 1 l : Option (Int × (List GAtom)))
             (fun x => grd (0 < x.2.length - x.1.toNat) (grd (x.1.toNat ≤ x.2.length) (grd (0 ≤ x.1) (some (.inr (x.2.take x.1.toNat))))))) : Option (Unit ⊕ (List GAtom))) = some (.inr (cp l)) := by
          refine grd_mk (by omega) ?_
          rw [show (1 : Int) = ((1 : Nat) : Int) from rfl, q1, ob1_some]
          show grd (0 < cur.length - (((cp l).length : Nat) : Int).toNat) (grd ((((cp l).length : Nat) : Int).toNat ≤ cur.length) (grd (0 ≤ (((cp l).length : Nat) : Int)) (some (Sum.inr (cur.take (((cp l).length : Nat) : Int).toNat))))) = _
          rw [Int.toNat_natCast, q3]
          exact grd_mk (by omega) (grd_mk (by omega) (grd_mk (by omega) rfl))
        rw [hin]
        rfl
      · rw [if_neg e]
        show M_s_CompactFunc_Atom_L2 _ _ _ k _ = _
        rw [wrap_eq (by omega) (by omega)]
        have hcp : cp (l.take (i + 1)) = l.take (i + 1) := by rw [hstep]; unfold cpS; rw [if_neg (by rw [hlast]; intro q; exact e (Option.some.inj q).symm), take_at hy]
        exact ih (i + 1) (by omega) (by omega) (by omega) hcp
    · rw [decide_eq_false (show ¬ (i : Int) < ((l.length : Nat) : Int) by omega)]
      show some l = _
      rw [show i = l.length by omega, List.take_length] at hc
      rw [hc]
theorem compact_eq (g : Nat) (hg : l.length < g) : M_s_CompactFunc_Atom g l M_datalog_sameAtom = some (cp l) := by
  unfold M_s_CompactFunc_Atom
  rw [sel_dec]
  by_cases h : ((l.length : Nat) : Int) < 2
  · rw [if_pos h]
    match l, h with
    | [], _ => rfl
    | [x], _ => rfl
    | x :: y :: r, h => simp at h; omega
  · rw [if_neg h]
    refine cpL2 l hA hl g hg g 1 (by omega) (Nat.le_refl _) (by omega) ?_
    match l, h with
    | [], h => simp at h
    | x :: r, _ => rfl
end
theorem cp_go : ∀ (l out : List GAtom), out.Pairwise (fun x y => atomC x y < 0) → (∀ x ∈ out, ∀ y ∈ l, atomC x y ≤ 0) → OrdA l →
    (l.foldl cpS out).Pairwise (fun x y => atomC x y < 0) ∧ (∀ z, z ∈ l.foldl cpS out ↔ z ∈ out ∨ z ∈ l) ∧ (l.foldl cpS out).length ≤ out.length + l.length
  | [], out, h1, _, _ => ⟨h1, fun z => by simp, by simp⟩
  | x :: r, out, h1, h2, h3 => by
    obtain ⟨h4, h5⟩ := List.pairwise_cons.1 h3
    rw [List.foldl_cons]
    by_cases e : out.getLast? = some x
    · have hc : cpS out x = out := by unfold cpS; rw [if_pos e]
      have hx : x ∈ out := List.mem_of_getLast? e
      rw [hc]
      obtain ⟨g1, g2, g3⟩ := cp_go r out h1 (fun a ha y hy => h2 a ha y (List.mem_cons_of_mem _ hy)) h5
      refine ⟨g1, fun z => ?_, by simp; omega⟩
      rw [g2, List.mem_cons]
      constructor
      · rintro (q | q)
        · exact .inl q
        · exact .inr (.inr q)
      · rintro (q | q | q)
        · exact .inl q
        · exact .inl (q ▸ hx)
        · exact .inr q
    · have hc : cpS out x = out ++ [x] := by unfold cpS; rw [if_neg e]
      rw [hc]
      have hlt : ∀ y ∈ out, atomC y x < 0 := fun y hy => by
        have hle := h2 y hy x (List.mem_cons_self ..)
        by_cases h0 : atomC y x = 0
        · exfalso
          have hyx := (atomC_cmp.eq y x).1 h0
          subst hyx
          obtain ⟨o', z, rfl⟩ : ∃ o' z, out = o' ++ [z] := ⟨out.dropLast, out.getLast (List.ne_nil_of_mem hy), (List.dropLast_concat_getLast (List.ne_nil_of_mem hy)).symm⟩
          have hz : z ≠ y := fun q => e (by rw [q]; simp)
          rcases List.mem_append.1 hy with q | q
          · have a1 := (List.pairwise_append.1 h1).2.2 y q z (by simp)
            have a2 := h2 z (by simp) y (List.mem_cons_self ..)
            exact hz (atomC_cmp.le_asym a2 (by omega))
          · simp at q
            exact hz q.symm
        · omega
      obtain ⟨g1, g2, g3⟩ := cp_go r (out ++ [x]) (List.pairwise_append.2 ⟨h1, by simp, fun a ha b hb => by simp at hb; rw [hb]; exact hlt a ha⟩) (fun a ha y hy => by
        rcases List.mem_append.1 ha with q | q
        · exact h2 a q y (List.mem_cons_of_mem _ hy)
        · simp at q; rw [q]; exact h4 y hy) h5
      refine ⟨g1, fun z => ?_, by simp at g3 ⊢; omega⟩
      rw [g2, List.mem_append, List.mem_singleton, List.mem_cons, or_assoc]
/-- a set: in strict order -/
def StrA (l : List GAtom) : Prop := l.Pairwise (fun x y => atomC x y < 0)
def setA (l : List GAtom) : GSet := cp (sortN l)
theorem setA_spec (l : List GAtom) : StrA (setA l) ∧ (∀ z, z ∈ setA l ↔ z ∈ l) ∧ (setA l).length ≤ l.length := by
  obtain ⟨h1, h2, h3⟩ := cp_go (sortN l) [] List.Pairwise.nil (fun x hx => by cases hx) (sortN_ord l)
  refine ⟨h1, fun z => (h2 z).trans ?_, Nat.le_trans h3 ?_⟩
  · rw [show z ∈ sortN l ↔ z ∈ l from (sortN_perm l).mem_iff]
    simp
  · rw [sortN_length]
    simp
theorem strA_unique {a b : List GAtom} (ha : StrA a) (hb : StrA b) (h : ∀ z, z ∈ a ↔ z ∈ b) : a = b := by
  have nd : ∀ {l : List GAtom}, StrA l → l.Nodup := fun {l} hl => hl.imp (fun {x y} hxy e => by rw [e, atomC_cmp.self] at hxy; omega)
  have hp : a.Perm b := (List.perm_ext_iff_of_nodup (nd ha) (nd hb)).2 h
  exact ordA_unique (ha.imp (fun {x y} h => by omega)) (hb.imp (fun {x y} h => by omega)) hp
theorem made_eq (g : Nat) (l : List GAtom) (hok : MadeOk l) (hg : l.length < g) : M_datalog_made g l = some (some (setA l)) := by
  have hb := hok.2
  unfold M_datalog_made
  rw [show (((l.map cGAtom).length : Int)).toNat + 1 = l.length + 1 by simp]
  rw [show M_datalog_made_L1 l (l.length + 1) 0 [] = some l from madeL1_mk l hok (l.length + 1) 0 [] (by omega) rfl (Nat.zero_le _), ob1_some]
  rw [show M_sortN l = some (sortN l) from grd_mk (by omega) rfl, ob1_some]
  refine grd_mk (sortN_length l) ?_
  rw [compact_eq (sortN l) (fun a ha => by have := hok.1 a ((sortN_perm l).mem_iff.1 ha); omega) (by rw [sortN_length]; omega) g (by rw [sortN_length]; exact hg), ob1_some]
  have := (setA_spec l).2.2
  exact grd_mk (by show (setA l).length * 40 ≤ _; omega) rfl
end Go.Proofs.YtflgpccacloadaaDoor.Am
/- Plain law: different heads have different keys. -/
namespace Go.Proofs.YtflgpccacloadaaDoor.Am
open Go.RowKit
theorem dec_sm {u : Nat} (h : u < 10) : Lib.decDigits u = [UInt8.ofNat (48 + u)] := by
  rw [Lib.decDigits, dif_pos h]
theorem dec_bg {u : Nat} (h : ¬ u < 10) : Lib.decDigits u = Lib.decDigits (u / 10) ++ [UInt8.ofNat (48 + u % 10)] := by
  rw [Lib.decDigits, dif_neg h]
def decV (l : List UInt8) : Nat := l.foldl (fun a c => a * 10 + (c.toNat - 48)) 0
theorem u8_nat {n : Nat} (h : n < 256) : (UInt8.ofNat n).toNat = n := by simp; omega
theorem dec_spec : ∀ u : Nat, decV (Lib.decDigits u) = u ∧ (32 : UInt8) ∉ Lib.decDigits u := by
  intro u
  induction u using Nat.strongRecOn with
  | _ u ih =>
    by_cases h : u < 10
    · rw [dec_sm h]
      refine ⟨by simp only [decV, List.foldl_cons, List.foldl_nil]; rw [u8_nat (by omega)]; omega, fun q => ?_⟩
      have q := List.mem_singleton.1 q
      have := congrArg UInt8.toNat q
      rw [u8_nat (by omega)] at this
      simp at this
      omega
    · rw [dec_bg h]
      obtain ⟨h1, h2⟩ := ih (u / 10) (by omega)
      refine ⟨?_, fun q => ?_⟩
      · unfold decV at h1 ⊢
        rw [List.foldl_append, h1]
        simp only [List.foldl_cons, List.foldl_nil]
        rw [u8_nat (by omega)]
        omega
      · rcases List.mem_append.1 q with q | q
        · exact h2 q
        · have q := List.mem_singleton.1 q
          have := congrArg UInt8.toNat q
          rw [u8_nat (by omega)] at this
          simp at this
          omega
theorem split32 : ∀ (a b s t : List UInt8), (32 : UInt8) ∉ a → (32 : UInt8) ∉ b → a ++ 32 :: s = b ++ 32 :: t → a = b ∧ s = t
  | [], [], s, t, _, _, h => ⟨rfl, (List.cons.inj h).2⟩
  | [], y :: b, s, t, _, hb, h => absurd (List.cons.inj h).1 (fun e => hb (by rw [e]; exact List.mem_cons_self ..))
  | x :: a, [], s, t, ha, _, h => absurd (List.cons.inj h).1 (fun e => ha (by rw [← e]; exact List.mem_cons_self ..))
  | x :: a, y :: b, s, t, ha, hb, h => by
    obtain ⟨h1, h2⟩ := List.cons.inj h
    obtain ⟨h3, h4⟩ := split32 a b s t (fun q => ha (List.mem_cons_of_mem _ q)) (fun q => hb (List.mem_cons_of_mem _ q)) h2
    exact ⟨by rw [h1, h3], h4⟩
/-- a number and so many bytes -/
theorem num_split {x y : ByteArray} {s t : List UInt8} (h : Lib.decDigits x.size ++ 32 :: (bl x ++ s) = Lib.decDigits y.size ++ 32 :: (bl y ++ t)) : x = y ∧ s = t := by
  obtain ⟨h1, h2⟩ := split32 _ _ _ _ (dec_spec x.size).2 (dec_spec y.size).2 h
  have hs : x.size = y.size := by rw [← (dec_spec x.size).1, h1, (dec_spec y.size).1]
  obtain ⟨h3, h4⟩ := List.append_inj h2 (by rw [bl_len, bl_len, hs])
  exact ⟨bl_inj h3, h4⟩
def encL (x : ByteArray) : List UInt8 := 32 :: (Lib.decDigits x.size ++ 32 :: bl x)
theorem enc_inj : ∀ l l' : List ByteArray, l.flatMap encL = l'.flatMap encL → l = l'
  | [], [], _ => rfl
  | [], x :: r, h => by simp [encL] at h
  | x :: r, [], h => by simp [encL] at h
  | x :: r, y :: q, h => by
    rw [List.flatMap_cons, List.flatMap_cons] at h
    have e : ∀ (x : ByteArray) (s : List UInt8), encL x ++ s = 32 :: (Lib.decDigits x.size ++ 32 :: (bl x ++ s)) := fun x s => by simp [encL]
    rw [e, e] at h
    obtain ⟨h1, h2⟩ := num_split (List.cons.inj h).2
    rw [h1, enc_inj r q h2]
theorem bl_ita (n : Nat) : bl (ita n) = Lib.decDigits n := by
  unfold ita
  rw [Lib.itoa_nonneg]
theorem bl_keyS (k x : ByteArray) : bl (keyS k x) = bl k ++ encL x := by
  unfold keyS encL
  rw [bl_append, bl_append, bl_append, bl_append, bl_ita]
  have : bl (⟨#[32]⟩ : ByteArray) = [32] := rfl
  rw [this]
  simp
theorem bl_fold : ∀ (l : List ByteArray) (k : ByteArray), bl (l.foldl keyS k) = bl k ++ l.flatMap encL
  | [], k => by simp
  | x :: r, k => by
    rw [List.foldl_cons, bl_fold r, bl_keyS, List.flatMap_cons, List.append_assoc]
theorem atomKey_inj {a b : GAtom} (h : atomKey a = atomKey b) : a = b := by
  obtain ⟨n, x⟩ := a
  obtain ⟨n', x'⟩ := b
  have h := congrArg bl h
  unfold atomKey at h
  simp only at h
  rw [bl_fold, bl_fold, bl_append, bl_append, bl_append, bl_append, bl_ita, bl_ita] at h
  have h32 : bl (⟨#[32]⟩ : ByteArray) = [32] := rfl
  rw [h32] at h
  have h' : Lib.decDigits n.size ++ 32 :: (bl n ++ x.flatMap encL) = Lib.decDigits n'.size ++ 32 :: (bl n' ++ x'.flatMap encL) := by simpa using h
  obtain ⟨h1, h2⟩ := num_split h'
  rw [h1, enc_inj x x' h2]
/-- the heads that a round finds -/
def headsOf (M : List (ByteArray × GAtom)) (l : List GAtom) : List (ByteArray × GAtom) := l.foldl (fun M a => setM M (atomKey a) a) M
theorem heads_spec : ∀ (l : List GAtom) (M : List (ByteArray × GAtom)), (M.map Prod.fst).Nodup → (∀ p ∈ M, p.1 = atomKey p.2) →
    ((headsOf M l).map Prod.fst).Nodup ∧ (∀ p ∈ headsOf M l, p.1 = atomKey p.2) ∧ ∀ a, a ∈ (headsOf M l).map Prod.snd ↔ a ∈ M.map Prod.snd ∨ a ∈ l
  | [], M, h1, h2 => ⟨h1, h2, fun a => by simp [headsOf]⟩
  | x :: r, M, h1, h2 => by
    have hm := fun p => mem_setM (a := atomKey x) (v := x) p h1
    have h2' : ∀ p ∈ setM M (atomKey x) x, p.1 = atomKey p.2 := fun p hp => by
      rcases (hm p).1 hp with e | ⟨e, _⟩
      · rw [e]
      · exact h2 p e
    obtain ⟨g1, g2, g3⟩ := heads_spec r (setM M (atomKey x) x) (keys_setM h1).1 h2'
    refine ⟨g1, g2, fun a => (g3 a).trans ?_⟩
    rw [List.mem_map, List.mem_map, List.mem_cons]
    constructor
    · rintro (⟨p, hp, rfl⟩ | q)
      · rcases (hm p).1 hp with e | ⟨e, _⟩
        · exact .inr (.inl (by rw [e]))
        · exact .inl ⟨p, e, rfl⟩
      · exact .inr (.inr q)
    · rintro (⟨p, hp, rfl⟩ | q | q)
      · by_cases e : p.1 = atomKey x
        · refine .inl ⟨(atomKey x, x), (hm _).2 (.inl rfl), ?_⟩
          rw [h2 p hp] at e
          exact (atomKey_inj e).symm
        · exact .inl ⟨p, (hm p).2 (.inr ⟨hp, e⟩), rfl⟩
      · exact .inl ⟨(atomKey x, x), (hm _).2 (.inl rfl), q.symm⟩
      · exact .inr q
end Go.Proofs.YtflgpccacloadaaDoor.Am
/- Regions whose last operations are shown by hand, one behind the other. -/
namespace Go.Proofs.YtflgpccacloadaaDoor.Am
open Go.RowKit
section
variable {C : Cx} {n : Nat} {ops : Array Oper} {Q : Exit → Act → World → Prop}
/-- each operation from p on comes behind all that stand ahead of it -/
def sufOk (ops : Array Oper) (p : Nat) : Bool := (List.range ops.size).all fun j => decide (j < p) || (List.range j).all fun k => ((befs ops.toList []).getD j 0).testBit k
theorem sufOk_at {p j k : Nat} (h : sufOk ops p = true) (hj : j < ops.size) (hp : p ≤ j) (hk : k < j) : ((befs ops.toList []).getD j 0).testBit k = true := by
  unfold sufOk at h
  rw [List.all_eq_true] at h
  have := h j (List.mem_range.2 hj)
  rw [Bool.or_eq_true] at this
  rcases this with h1 | h1
  · have := of_decide_eq_true h1; omega
  · rw [List.all_eq_true] at h1
    exact h1 k (List.mem_range.2 hk)
theorem ready_behind {p : Nat} (hs : sufOk ops p = true) {listed : Array Bool} (hz : listed.size = ops.size) (hc : Closed ops (listD listed)) {i : Nat} (hi : i ∈ Region.ready .any ops listed) (hp : p ≤ i) : ∀ q, q < i → listD listed q = true := by
  intro q hq
  obtain ⟨o, h1, h2, h3⟩ := (ready_iff hz).1 hi
  have hil := (Array.getElem?_eq_some_iff.1 h1).1
  have hc' : Closed ops (fun k => decide (k = i) || listD listed k) := by
    intro k ok hk hd e he hb
    simp only [Bool.or_eq_true, decide_eq_true_eq] at hd ⊢
    rcases hd with rfl | hd
    · rw [h1] at hk
      injection hk with hk
      subst hk
      exact .inr (h3 e he hb)
    · exact .inr (hc k ok hk hd e he hb)
  have hg' := befs_good hc' ops.toList [] (fun j o' hj => by simpa using hj) (fun j k hjk => by simp at hjk)
  have := hg' i q (sufOk_at hs hil hp hq) (by simp)
  simp only [Bool.or_eq_true, decide_eq_true_eq] at this
  exact this.resolve_left (by omega)
theorem listed_set {listed : Array Bool} {i : Nat} (hi : i < listed.size) (k : Nat) : listD (listed.setIfInBounds i true) k = if k = i then true else listD listed k := by
  unfold listD
  rw [Array.getD_eq_getD_getElem?, Array.getD_eq_getD_getElem?]
  by_cases e : k = i
  · subst e; rw [Array.getElem?_setIfInBounds_self_of_lt hi]; simp
  · rw [Array.getElem?_setIfInBounds_ne (fun h => e h.symm), if_neg e]
theorem closed_set {listed : Array Bool} {i : Nat} {o : Oper} (hz : listed.size = ops.size) (hc : Closed ops (listD listed)) (h1 : ops[i]? = some o) (h3 : ∀ e ∈ o.after.toList, Region.binds .any e = true → listD listed e.on = true) : Closed ops (listD (listed.setIfInBounds i true)) := by
  have hil := (Array.getElem?_eq_some_iff.1 h1).1
  intro j oj hj hd e he hb
  rw [listed_set (by omega)] at hd ⊢
  split
  · rfl
  · split at hd
    · rename_i hji
      subst hji
      rw [h1] at hj
      injection hj with hj
      subst hj
      exact h3 e he hb
    · exact hc j oj hj hd e he hb
theorem count_set {listed : Array Bool} {i : Nat} (hi : i < listed.size) (h2 : listD listed i = false) : (listed.setIfInBounds i true).toList.countP id = listed.toList.countP id + 1 := by
  have hlt : i < listed.toList.length := by simpa using hi
  have hfalse : listed.toList[i] = false := by
    simp only [listD, Array.getD_eq_getD_getElem?, Array.getElem?_eq_getElem hi, Option.getD_some] at h2
    simpa using h2
  rw [Array.toList_setIfInBounds, List.countP_set hlt]
  simp [hfalse]
theorem ready_nil {listed : Array Bool} (hback : backOk ops.toList 0 = true) (hs : listed.size = ops.size) (hr : Region.ready .any ops listed = []) : ∀ i, i < ops.size → listD listed i = true := by
  intro i
  induction i using Nat.strongRecOn with
  | _ i ih =>
    intro hi
    cases hd : listD listed i
    · exfalso
      have : i ∈ Region.ready .any ops listed := (ready_iff hs).2 ⟨_, Array.getElem?_eq_getElem hi, hd, fun e he hb => by
        have := backOk_at _ 0 hback i ops[i] (by simp) e he hb
        exact ih e.on (by omega) (by omega)⟩
      rw [hr] at this
      cases this
    · rfl
theorem ready_all {listed : Array Bool} (hs : listed.size = ops.size) (hf : ops.size ≤ listed.toList.countP id) : Region.ready .any ops listed = [] := by
  cases h : Region.ready .any ops listed with
  | nil => rfl
  | cons i r =>
    exfalso
    obtain ⟨o, h1, h2, _⟩ := (ready_iff hs).1 (by rw [h]; simp : i ∈ Region.ready .any ops listed)
    have hi := (Array.getElem?_eq_some_iff.1 h1).1
    have hcnt : listed.toList.countP id = listed.toList.length := by
      have := List.countP_le_length (p := id) (l := listed.toList)
      rw [Array.length_toList] at this ⊢
      omega
    have := List.countP_eq_length.1 hcnt listed[i] (by simp)
    simp only [id] at this
    simp only [listD, Array.getD_eq_getD_getElem?, Array.getElem?_eq_getElem (show i < listed.size from by omega), Option.getD_some] at h2
    rw [this] at h2
    cases h2
abbrev idxs (q k : Nat) : List Nat := (List.range k).map (q + ·)
theorem idxs_succ (q k : Nat) : idxs q (k + 1) = q :: idxs (q + 1) k := by
  unfold idxs
  rw [List.range_succ_eq_map, List.map_cons, List.map_map]
  congr 1
  exact List.map_congr_left (fun x _ => by simp; omega)
/-- the last operations alone -/
theorem wpAny_tail {p : Nat} (hback : backOk ops.toList 0 = true) (hsuf : sufOk ops p = true) : ∀ (k q : Nat), q + k = ops.size → p ≤ q → ∀ (fuel : Nat) (listed : Array Bool) (a : Act) (w : World), listed.size = ops.size → Closed ops (listD listed) → ops.size ≤ listed.toList.countP id + fuel →
    (∀ j, j < q → listD listed j = true) → (∀ j, q ≤ j → listD listed j = false) → wpOps C.P ops Q (idxs q k) a w → wpAny C.P .any ops Q fuel listed a w
  | k, q, hqk, hpq, 0, listed, a, w, hz, hc, hf, hlo, hhi, h => by
    have hr := ready_all hz (by omega)
    have hq : k = 0 := by
      rcases Nat.eq_zero_or_pos k with h0 | h0
      · exact h0
      · have := ready_nil hback hz hr q (by omega)
        rw [hhi q (Nat.le_refl _)] at this
        cases this
    subst hq
    exact ⟨hr, h⟩
  | k, q, hqk, hpq, fuel + 1, listed, a, w, hz, hc, hf, hlo, hhi, h => by
    refine ⟨fun hr => ?_, fun i hi => ?_⟩
    · have hq : k = 0 := by
        rcases Nat.eq_zero_or_pos k with h0 | h0
        · exact h0
        · have := ready_nil hback hz hr q (by omega)
          rw [hhi q (Nat.le_refl _)] at this
          cases this
      subst hq
      exact h
    · obtain ⟨o, h1, h2, h3⟩ := (ready_iff hz).1 hi
      have hil := (Array.getElem?_eq_some_iff.1 h1).1
      have hiq : i = q := by
        rcases Nat.lt_trichotomy i q with hlt | rfl | hgt
        · rw [hlo i hlt] at h2; cases h2
        · rfl
        · have := ready_behind hsuf hz hc hi (by omega) q hgt
          rw [hhi q (Nat.le_refl _)] at this
          cases this
      subst hiq
      obtain ⟨k', rfl⟩ : ∃ k', k = k' + 1 := ⟨k - 1, by omega⟩
      rw [idxs_succ, wpOps_cons] at h
      refine wpOp_mono (fun a' w' h' => ?_) h
      refine wpAny_tail hback hsuf k' (i + 1) (by omega) (by omega) fuel _ a' w' (by simp [hz]) (closed_set hz hc h1 h3) (by rw [count_set (by omega) h2]; omega) (fun j hj => ?_) (fun j hj => ?_) h'
      · rw [listed_set (by omega)]
        split
        · rfl
        · exact hlo j (by omega)
      · rw [listed_set (by omega), if_neg (by omega)]
        exact hhi j (by omega)
theorem zip_take {fs : List Foot} {p : Nat} (hl : fs.length = p) : ops.toList.zip fs = (ops.toList.take p).zip fs := by
  subst hl
  induction fs generalizing ops with
  | nil => simp
  | cons f fs ih =>
    rcases ops with ⟨_ | ⟨o, os⟩⟩
    · simp
    · have := ih (ops := ⟨os⟩)
      simpa using this
theorem wpAny_suf {p : Nat} {w0 : World} {X : XX} {s0 : SE} {τ' : Nat → AV} {η' : Nat → Ent} {fs : List Foot} (hp : p < ops.size) (htr : Tr C n ops (ops.toList.take p) s0.1 s0.2 fs τ' η') (hind : indepOk ops fs = true) (hback : backOk ops.toList 0 = true) (hsuf : sufOk ops p = true)
    (hq : ∀ m' a' w', Rep C n w0 X τ' η' m' a' w' → wpOps C.P ops Q (idxs p (ops.size - p)) a' w') : ∀ (fuel : Nat) (listed : Array Bool) (m : MM) (a : Act) (w : World), listed.size = ops.size → Closed ops (listD listed) → ops.size ≤ listed.toList.countP id + fuel →
      (∀ j, p ≤ j → listD listed j = false) → Rep C n w0 X (appD (listD listed) (ops.toList.zip fs) 0 s0).1 (appD (listD listed) (ops.toList.zip fs) 0 s0).2 m a w → wpAny C.P .any ops Q fuel listed a w := by
  have hlen0 := tr_len _ _ _ _ _ _ htr
  have hlen : fs.length = p := by rw [← hlen0]; simp; omega
  have hz := zip_take (ops := ops) hlen
  obtain ⟨hall, hat⟩ := tr_at (ops.toList.take p) 0 s0 fs τ' η' htr
  rw [← hz] at hall hat
  have hzl : (ops.toList.zip fs).length = p := by simp; omega
  have hnr : ∀ listed : Array Bool, listed.size = ops.size → (∀ j, p ≤ j → listD listed j = false) → Region.ready .any ops listed ≠ [] := by
    intro listed hs hhi hr
    have := ready_nil hback hs hr p hp
    rw [hhi p (Nat.le_refl _)] at this
    cases this
  intro fuel
  induction fuel with
  | zero =>
    intro listed m a w hs hc hf hhi hrep
    exact absurd (ready_all hs (by omega)) (hnr listed hs hhi)
  | succ fuel ih =>
    intro listed m a w hs hc hf hhi hrep
    refine ⟨fun hr => absurd hr (hnr listed hs hhi), fun i hi => ?_⟩
    obtain ⟨o, h1, h2, h3⟩ := (ready_iff hs).1 hi
    have hil := (Array.getElem?_eq_some_iff.1 h1).1
    rcases Nat.lt_or_ge i p with hip | hip
    · obtain ⟨f, hfi⟩ : ∃ f, fs[i]? = some f := ⟨fs[i]'(by omega), List.getElem?_eq_getElem _⟩
      have hp' : (ops.toList.zip fs)[i]? = some (o, f) := by
        rw [List.getElem?_zip_eq_some]
        exact ⟨by simpa using h1, hfi⟩
      have hts := hat i (o, f) hp'
      rw [Nat.zero_add] at hts
      have hgood := befs_good hc ops.toList [] (fun j o' hj => by simpa using hj) (fun j k hjk => by simp at hjk)
      have hno : ∀ (j : Nat) (q : Oper × Foot), i < j → (ops.toList.zip fs)[j]? = some q → confl ops (o, f) q = true → listD listed j = false := by
        intro j q hij hqj hcf
        cases hd : listD listed j
        · rfl
        · have := hgood j i (indep_at hind hp' hqj hij hcf) hd
          rw [h2] at this
          cases this
      have hyes : ∀ (j : Nat) (q : Oper × Foot), j < i → (ops.toList.zip fs)[j]? = some q → confl ops q (o, f) = true → listD listed j = true := by
        intro j q hij hqj hcf
        have hc' : Closed ops (fun k => decide (k = i) || listD listed k) := by
          intro k ok hk hd e he hb
          simp only [Bool.or_eq_true, decide_eq_true_eq] at hd ⊢
          rcases hd with rfl | hd
          · rw [h1] at hk
            injection hk with hk
            subst hk
            exact .inr (h3 e he hb)
          · exact .inr (hc k ok hk hd e he hb)
        have hg' := befs_good hc' ops.toList [] (fun j o' hj => by simpa using hj) (fun j k hjk => by simp at hjk)
        have := hg' i j (indep_at hind hqj hp' hij hcf) (by simp)
        simp only [Bool.or_eq_true, decide_eq_true_eq] at this
        exact this.resolve_left (by omega)
      have hagT : ∀ t ∈ o.looksAt ops, (appD (listD listed) (ops.toList.zip fs) 0 s0).1 t = (appD (fun j => decide (j < i)) (ops.toList.zip fs) 0 s0).1 t := by
        intro t ht
        refine appD_tmp _ _ t _ 0 _ _ rfl (fun j q hq hd => ?_)
        rw [Nat.zero_add]
        rcases Nat.lt_trichotomy j i with hj | hj | hj
        · rw [hyes j q hj hq (confl_tmp hd (.inl ht))]; simp [hj]
        · subst hj; rw [h2]; simp
        · rw [hno j q hj hq (confl_tmp' hd ht)]; simp; omega
      have hagE : ∀ k, k ∈ f.rb ∨ k ∈ f.ids → (appD (listD listed) (ops.toList.zip fs) 0 s0).2 k = (appD (fun j => decide (j < i)) (ops.toList.zip fs) 0 s0).2 k := by
        intro k hk
        refine appD_ent _ _ k _ 0 _ _ rfl (fun j q hq hd => ?_)
        rw [Nat.zero_add]
        rcases Nat.lt_trichotomy j i with hj | hj | hj
        · rw [hyes j q hj hq (confl_ent hd hk)]; simp [hj]
        · subst hj; rw [h2]; simp
        · have : confl ops (o, f) q = true := by
            rcases hk with hk | hk
            · exact confl_ent' hk hd
            · exact confl_ent hk (.inr hd)
          rw [hno j q hj hq this]; simp; omega
      refine wpOp_of h1 (fun a' w' hK => ?_) (hts _ _ hagT hagE w0 X m a w hrep)
      obtain ⟨m', hrep'⟩ := hK
      refine ih (listed.setIfInBounds i true) m' a' w' (by simp [hs]) (closed_set hs hc h1 h3) (by rw [count_set (by omega) h2]; omega) (fun j hj => by rw [listed_set (by omega), if_neg (by omega)]; exact hhi j hj) ?_
      rw [appD_add (D := listD listed) (D' := listD (listed.setIfInBounds i true)) hp' h2 (by rw [listed_set (by omega)]; simp) (fun j hj => by rw [listed_set (by omega), if_neg hj]) (fun j q hij hqj hd => ?_)]
      · exact hrep'
      · refine ⟨fun d hd1 hd2 => ?_, fun k hk1 hk2 => ?_⟩
        · have := hno j q hij hqj (confl_tmp hd1 (.inr hd2))
          rw [hd] at this
          cases this
        · have := hno j q hij hqj (confl_ent hk1 (.inr hk2))
          rw [hd] at this
          cases this
    · have hbe := ready_behind hsuf hs hc hi hip
      have hip' : i = p := by
        rcases Nat.eq_or_lt_of_le hip with h | h
        · exact h.symm
        · have := hbe p h
          rw [hhi p (Nat.le_refl _)] at this
          cases this
      subst hip'
      rw [appD_congr (listD listed) (fun _ => true) _ 0 s0 (fun j hj => by rw [Nat.zero_add]; exact hbe j (by omega)), hall] at hrep
      have h := hq m a w hrep
      obtain ⟨k', hk'⟩ : ∃ k', ops.size - i = k' + 1 := ⟨ops.size - i - 1, by omega⟩
      rw [hk', idxs_succ, wpOps_cons] at h
      refine wpOp_mono (fun a' w' h' => ?_) h
      refine wpAny_tail hback hsuf k' (i + 1) (by omega) (by omega) fuel _ a' w' (by simp [hs]) (closed_set hs hc h1 h3) (by rw [count_set (by omega) h2]; omega) (fun j hj => ?_) (fun j hj => ?_) h'
      · rw [listed_set (by omega)]
        split
        · rfl
        · exact hbe j (by omega)
      · rw [listed_set (by omega), if_neg (by omega)]
        exact hhi j (by omega)
end
theorem wpOps_app {P : Program} {ops : Array Oper} {Q : Exit → Act → World → Prop} : ∀ (l r : List Nat) (a : Act) (w : World), wpOps P ops (fun e a w => match e with | .normal => wpOps P ops Q r a w | e => Q e a w) l a w → wpOps P ops Q (l ++ r) a w
  | [], r, a, w, h => h
  | i :: l, r, a, w, h => by
    rw [List.cons_append, wpOps_cons]
    rw [wpOps_cons] at h
    unfold wpOp at h ⊢
    split at h
    · exact wpOps_app l r a w h
    · split at h
      · rename_i hw
        rw [if_pos hw]
        rcases h with h | ⟨h1, h2⟩
        · refine .inl ?_
          unfold Oper.wp at h ⊢
          generalize (execOp a.eval _).run P w = q at h ⊢
          cases q with
          | ok nx w' => cases nx <;> simp only [Oper.upon] at h ⊢ <;> first | exact wpOps_app l r _ _ h | (refine Calls.mono h (fun e w'' he => ?_); cases e <;> first | exact wpOps_app l r _ _ he | exact he) | exact Rows.mono h (fun _ _ he => wpOps_app l r _ _ he) | exact h
          | halt x w' => cases x <;> simp only [Oper.upon] at h ⊢ <;> exact h
        · exact .inr ⟨h1, h2⟩
      · rename_i hw
        rw [if_neg hw]
        exact wpOps_app l r _ _ h
end Go.Proofs.YtflgpccacloadaaDoor.Am
/- An abstract machine: a loop over a map that the call has made: the iterator lies in a block that nothing names; the map is immutable from there on. -/
namespace Go.Proofs.YtflgpccacloadaaDoor.Am
open Go.RowKit Go.MapKept
open Go.ChangeMaps (setBlock)

/-- the last operations of a region by hand, at a world -/
theorem wp_regionS {C : Cx} {ops : Array Oper} {Q : Exit → Act → World → Prop} {id : Nat} {draw : Bool} {tm : List AV} {hp : List Ent} {w0 : World} {X : XX} {m : MM} {a : Act} {w : World} (p : Nat) (hp0 : Nat.blt p ops.size = true)
    {K : List AV → List Ent → Prop} (h : vcO C ops [] (ops.toList.take p) tm hp [] (fun fs tm' hp' => (draw = true → indepOk ops fs = true ∧ backOk ops.toList 0 = true ∧ sufOk ops p = true) ∧ K tm' hp'))
    (hk : ∀ tm' hp', K tm' hp' → ∀ m a w, RepS C w0 X ⟨tm', hp'⟩ m a w → wpOps C.P ops Q (idxs p (ops.size - p)) a w)
    (hr : RepS C w0 X ⟨tm, hp⟩ m a w) : (Code.region id ops draw).wp C.P Q a w := by
  obtain ⟨fs, tm', hp', h1, ⟨h3, h4⟩, h5⟩ := vcO_ok _ _ _ _ _ _ h
  simp only [List.nil_append] at h3
  have hlt : p < ops.size := Nat.le_of_ble_eq_true hp0
  have fin : ∀ (m' : MM) (a' : Act) (w' : World), Rep C tm.length w0 X (tmF tm') (hpF hp') m' a' w' → wpOps C.P ops Q (idxs p (ops.size - p)) a' w' := fun m' a' w' hr' => hk tm' hp' h4 m' a' w' (by unfold RepS; rw [h5]; exact hr')
  cases draw with
  | true =>
    obtain ⟨g1, g2, g3⟩ := h3 rfl
    refine wp_region_any C.mixed (wpAny_suf (s0 := (tmF tm, hpF hp)) hlt h1 g1 g2 g3 fin ops.size (Array.replicate ops.size false) m a _ (by simp) (fun j o hj hd => ?_) (by omega) (fun j _ => ?_) ?_)
    · exfalso
      simp only [listD, Array.getD_eq_getD_getElem?] at hd
      rcases Nat.lt_or_ge j ops.size with h | h
      · simp [h] at hd
      · simp [Nat.not_lt.2 h] at hd
    · simp only [listD, Array.getD_eq_getD_getElem?]
      rcases Nat.lt_or_ge j ops.size with h | h
      · simp [h]
      · simp [Nat.not_lt.2 h]
    · have e : appD (listD (Array.replicate ops.size false)) (ops.toList.zip fs) 0 (tmF tm, hpF hp) = (tmF tm, hpF hp) := by
        have : ∀ (L : List (Oper × Foot)) (q : Nat) (s : SE), appD (listD (Array.replicate ops.size false)) L q s = s := by
          intro L
          induction L with
          | nil => intro q s; rfl
          | cons x r ih =>
            intro q s
            rw [appD, ih, if_neg]
            simp only [listD, Array.getD_eq_getD_getElem?]
            rcases Nat.lt_or_ge q ops.size with h | h
            · simp [h]
            · simp [Nat.not_lt.2 h]
        exact this _ _ _
      rw [e]
      exact Rep.drew hr _
  | false =>
    refine wp_region ?_
    have e : List.range ops.size = idxs 0 p ++ idxs p (ops.size - p) := by
      unfold idxs
      have e0 : (List.range p).map (0 + ·) = List.range p := by
        have : ((fun x => 0 + x) : Nat → Nat) = fun x => x := funext fun x => Nat.zero_add x
        rw [this]; exact List.map_id' _
      rw [e0]
      conv => lhs; rw [show ops.size = p + (ops.size - p) from by omega]
      exact List.range_add
    rw [e]
    refine wpOps_app _ _ _ _ ?_
    have hl : (ops.toList.take p).length = p := by simp; omega
    have := tr_seq (Q := fun e a w => match e with | .normal => wpOps C.P ops Q (idxs p (ops.size - p)) a w | e => Q e a w) (ops.toList.take p) 0 _ _ fs _ _ h1 (fun j o hj => by
      rw [Nat.zero_add]
      rw [List.getElem?_take] at hj
      split at hj
      · simpa using hj
      · cases hj) w0 X m a w hr fin
    rw [hl] at this
    exact this

theorem wpOps_at {P : Program} {ops : Array Oper} {Q : Exit → Act → World → Prop} {i : Nat} {rest : List Nat} {o : Oper} {a : Act} {w : World} (hi : ops[i]? = some o) (hg : o.guard = none) (h : o.wp P a w (wpOps P ops Q rest) Q) : wpOps P ops Q (i :: rest) a w := by
  rw [wpOps_cons]
  unfold wpOp
  rw [hi]
  simp only [Region.wanted, hg]
  exact .inl h

section
variable {C : Cx} [PwT C] {n : Nat} {w0 : World} {X : XX} {τ : Nat → AV} {η : Nat → Ent} {m : MM} {a : Act} {w : World}
theorem shape_of {w w' : World} {b : Nat} (h : w'.heap[b]? = w.heap[b]?) : w'.shape? b = w.shape? b := by
  unfold World.shape?
  rw [h]
/-- a new block that nothing names -/
theorem Rep.hideNew (h : Rep C n w0 X τ η m a w) (o : Obj) : Rep C n w0 (withO X (fun b => X.O b ∨ b = w.heap.size)) τ η ⟨m.f, fun b => m.O b ∨ b = w.heap.size⟩ a (w.alloc o) := by
  have hg : ∀ b, b < w.heap.size → (w.alloc o).heap[b]? = w.heap[b]? := fun b hb => heap_alloc_old w o hb
  have hsz : (w.alloc o).heap.size = w.heap.size + 1 := by show (w.heap.push o).size = _; simp
  have hm : Mono w (shp η) m (w.alloc o) (shp η) ⟨m.f, fun b => m.O b ∨ b = w.heap.size⟩ := by
    refine ⟨by omega, fun b hb _ => hg b hb, fun b hb hno => ?_, fun _ => Nat.le_refl _, fun i _ => ⟨rfl, fun hl => ⟨rfl, fun b hb => shape_of (hg b (h.mem.lt (blk_live.1 hl) hb))⟩⟩⟩
    rintro (h1 | ⟨i, h1, h2⟩)
    · rcases h1 with h1 | h1
      · exact hno (.inl h1)
      · omega
    · exact hno (.inr ⟨i, h1, h2⟩)
  refine ⟨fun t => (h.tm t).mono hm, h.sz, h.df, ⟨fun i B hB => (h.mem.ok i B hB).mono hm (fun b hb => hg b (h.mem.lt (by rw [hB]; simp) hb)), h.mem.inj, h.mem.low, fun i b h1 h2 => ?_, fun b hb => ?_, by have := h.mem.big; omega⟩, ⟨h.kin.os, h.kin.tape, h.kin.output, Nat.le_trans h.kin.size (by omega), fun b hb hx => (hg b (Nat.lt_of_lt_of_le hb h.kin.size)).trans (h.kin.block b hb hx)⟩, by rw [h.oo], h.own, C.keep w _ (fun b hb => hg b (Nat.lt_of_lt_of_le hb h.mem.big)) h.gl, fun i hi => ?_, PwT.h _ _⟩
  · rintro (q | q)
    · exact h.mem.sep i b h1 h2 q
    · have := h.mem.lt h1 h2
      omega
  · rcases hb with q | q
    · have := h.mem.olt b q
      exact ⟨by omega, this.2⟩
    · exact ⟨by omega, by have := h.mem.big; omega⟩
  · obtain ⟨k1, k2, k3, k4⟩ := h.kk i hi
    exact ⟨k1, k2, k3, fun b hb => (shape_of (hg b (h.mem.lt k2 hb))).trans (k4 b hb)⟩
omit [PwT C] in
/-- a block that nothing names changes -/
theorem Rep.hidSet (h : Rep C n w0 X τ η m a w) {r : Nat} (hr : X.O r) (hge : w0.heap.size ≤ r) {w' : World} (hsz : w'.heap.size = w.heap.size) (hg : ∀ b, b ≠ r → w'.heap[b]? = w.heap[b]?) (ho : w'.os = w.os) (ht : w'.tape = w.tape) (hou : w'.output = w.output) : Rep C n w0 X τ η m a w' := by
  have hmr : m.O r := by rw [h.oo]; exact hr
  have hne : ∀ i b, (η i).blk ≠ none → m i = some b → b ≠ r := fun i b h1 h2 e => h.mem.sep i b h1 h2 (by rw [e]; exact hmr)
  have hm : Mono w (shp η) m w' (shp η) m :=
    ⟨by omega, fun b _ hno => hg b (fun e => hno (.inl (by rw [e]; exact hmr))), fun _ _ q => q, fun _ => Nat.le_refl _, fun i _ => ⟨rfl, fun hl => ⟨rfl, fun b hb => shape_of (hg b (hne i b (blk_live.1 hl) hb))⟩⟩⟩
  have hrN : C.N ≤ r := (h.mem.olt r hmr).2
  refine ⟨fun t => (h.tm t).mono hm, h.sz, h.df, ⟨fun i B hB => (h.mem.ok i B hB).mono hm (fun b hb => hg b (hne i b (by rw [hB]; simp) hb)), h.mem.inj, h.mem.low, h.mem.sep, fun b hb => by rw [hsz]; exact h.mem.olt b hb, by rw [hsz]; exact h.mem.big⟩, ⟨ho.trans h.kin.os, ht.trans h.kin.tape, hou.trans h.kin.output, by rw [hsz]; exact h.kin.size, fun b hb hx => (hg b (by omega)).trans (h.kin.block b hb hx)⟩, h.oo, h.own, C.keep w _ (fun b hb => hg b (by omega)) h.gl, fun i hi => ?_, h.pw⟩
  obtain ⟨k1, k2, k3, k4⟩ := h.kk i hi
  exact ⟨k1, k2, k3, fun b hb => (shape_of (hg b (hne i b k2 hb))).trans (k4 b hb)⟩
/-- a name is given up -/
theorem Rep.dropN (h : Rep C n w0 X τ η m a w) {T v : Nat} (hT : T < n) (hv : (η T).ver < v) : Rep C n w0 X τ (updE η T ⟨v, none⟩) m a w ∧ Mono w (shp η) m w (shp (updE η T ⟨v, none⟩)) m := by
  have live : ∀ i, (updE η T ⟨v, none⟩ i).blk ≠ none → i ≠ T ∧ updE η T ⟨v, none⟩ i = η i := fun i hi => by
    by_cases e : i = T
    · subst e; simp [updE] at hi
    · exact ⟨e, by simp [updE, e]⟩
  have hm : Mono w (shp η) m w (shp (updE η T ⟨v, none⟩)) m := by
    refine ⟨Nat.le_refl _, fun _ _ _ => rfl, fun b hb hno => ?_, fun i => ?_, fun i hi => ?_⟩
    · rintro (q | ⟨i, q1, q2⟩)
      · exact hno (.inl q)
      · obtain ⟨_, e⟩ := live i (blk_live.1 q1)
        exact hno (.inr ⟨i, blk_live.2 (by rw [← e]; exact blk_live.1 q1), q2⟩)
    · by_cases e : i = T
      · subst e; simp [shp, updE]; omega
      · simp [shp, updE, e]
    · by_cases e : i = T
      · subst e; simp [shp, updE] at hi; omega
      · exact ⟨by simp [shp, updE, e], fun _ => ⟨rfl, fun _ _ => rfl⟩⟩
  refine ⟨h.recast hm ⟨fun i B hB => ?_, fun i i' b h1 h2 h3 h4 => ?_, fun i b h1 h2 => ?_, fun i b h1 h2 => ?_, h.mem.olt, h.mem.big⟩ h.oo (fun i b h1 h2 => ?_) (fun i hi => ⟨by simp [updE, show i ≠ T from fun e => by omega], rfl⟩), hm⟩
  · obtain ⟨_, e⟩ := live i (by rw [hB]; simp)
    exact (h.mem.ok i B (by rw [← e]; exact hB)).mono hm (fun _ _ => rfl)
  · obtain ⟨_, e⟩ := live i h1
    obtain ⟨_, e'⟩ := live i' h2
    exact h.mem.inj i i' b (by rw [← e]; exact h1) (by rw [← e']; exact h2) h3 h4
  · obtain ⟨_, e⟩ := live i h1
    exact h.mem.low i b (by rw [← e]; exact h1) h2
  · obtain ⟨_, e⟩ := live i h1
    exact h.mem.sep i b (by rw [← e]; exact h1) h2
  · obtain ⟨_, e⟩ := live i h1
    exact h.own i b (by rw [← e]; exact h1) h2
/-- what was hidden is forgotten -/
theorem Rep.unhideO {O1 : Nat → Prop} (h : Rep C n w0 (withO X O1) τ η m a w) (hs : ∀ b, X.O b → O1 b) : Rep C n w0 X τ η ⟨m.f, X.O⟩ a w := by
  have hsub : ∀ b, X.O b → m.O b := fun b q => by rw [h.oo]; exact hs b q
  have hm : Mono w (shp η) m w (shp η) ⟨m.f, X.O⟩ := by
    refine ⟨Nat.le_refl _, fun _ _ _ => rfl, fun b hb hno => ?_, fun _ => Nat.le_refl _, fun i _ => ⟨rfl, fun _ => ⟨rfl, fun _ _ => rfl⟩⟩⟩
    rintro (q | ⟨i, q1, q2⟩)
    · exact hno (.inl (hsub b q))
    · exact hno (.inr ⟨i, q1, q2⟩)
  exact h.recast hm ⟨fun i B hB => (h.mem.ok i B hB).mono hm (fun _ _ => rfl), h.mem.inj, h.mem.low, fun i b h1 h2 q => h.mem.sep i b h1 h2 (hsub b q), fun b q => h.mem.olt b (hsub b q), h.mem.big⟩ rfl h.own (fun _ _ => ⟨rfl, rfl⟩)
end

/-- what is known of the iterator and of the entry that it has handed out -/
def ItP (r : Nat) (e : MapEntry) (x : AV) (w : World) (X : XX) : Prop :=
  ∃ (bm since : Nat) (seen : Array Nat) (c : Nat) (es : Array MapEntry), w.heap[r]? = some (.mapIter (some bm) since (seen.push e.born) c) ∧ w.heap[bm]? = some (.map es c) ∧ ¬ X.X r ∧ ¬ X.X bm ∧ e ∈ es.toList ∧ (es.toList.map (·.born)).Nodup ∧ RV w nov (mO (fun b => X.X b ∨ X.O b)) x e.val ∧ Fr x
def cxI (C : Cx) (r : Nat) (e : MapEntry) (x : AV) : Cx := { C with Pw := ItP r e x }
section
variable {C : Cx} {n : Nat} {w0 : World} {X : XX} {τ : Nat → AV} {η : Nat → Ent} {m : MM} {a : Act} {w : World} {r : Nat} {e : MapEntry} {x : AV} {o : Oper}
theorem Rep.toI (h : Rep C n w0 X τ η m a w) (hp : ItP r e x w0 X) : Rep (cxI C r e x) n w0 X τ η m a w := ⟨h.tm, h.sz, h.df, h.mem, h.kin, h.oo, h.own, h.gl, h.kk, hp⟩
theorem Rep.ofI [PwT C] (h : Rep (cxI C r e x) n w0 X τ η m a w) : Rep C n w0 X τ η m a w := ⟨h.tm, h.sz, h.df, h.mem, h.kin, h.oo, h.own, h.gl, h.kk, PwT.h _ _⟩
theorem lf_entry {y : Operand} (ho : o.op = .entry y) (hd : InB n o.dst) (hy : evA τ y = .c (.pointer (some ⟨r, 0, none⟩))) : LF (cxI C r e x) n o τ η ⟨.tup [.c e.key, x], [], []⟩ := by
  refine lf_pure hd (fun τ' η' g1 _ => ?_)
  intro w0 X m a w h
  obtain ⟨bm, since, seen, c, es, h1, h2, h3, h4, h5, h6, h7, h8⟩ := h.pw
  have e1 := h.ev y
  rw [g1 y (by simp [ho, Op.operands]), hy] at e1
  have w1 : w.heap[r]? = some (.mapIter (some bm) since (seen.push e.born) c) := (h.kin.block r (lt_of_block h1) h3).trans h1
  have w2 : w.heap[bm]? = some (.map es c) := (h.kin.block bm (lt_of_block h2) h4).trans h2
  refine ⟨.tuple #[e.key, e.val], ?_, ?_⟩
  · simp [execOp, ho, rv_c e1, run_entry_at w r bm since seen es c e w1 w2 h5 h6, Result.andThen]
  · refine .tup rfl (fun j z v hj hv => ?_)
    match j with
    | 0 => simp at hj hv; subst hj hv; exact .c _
    | 1 =>
      simp at hj hv
      subst hj hv
      refine rv_keep h8 h7 h.kin.size (fun b hb hno => h.kin.block b hb (fun q => hno (owned_nov.2 (.inl q)))) (fun b hb hno hq => hno (owned_nov.2 ?_))
      rcases hq with q | ⟨i, q1, q2⟩
      · exact .inr (by rw [← h.oo]; exact q)
      · rcases h.own i b (blk_live.1 q1) q2 with q | q
        · exact .inl q
        · omega
    | j + 2 => simp at hj
end

/-- what has been handed out -/
theorem filt_range {α : Type} : ∀ M : List α, (List.range M.length).filterMap (fun j => M[j]?) = M
  | [] => rfl
  | x :: r => by
    have ih := filt_range r
    rw [List.length_cons, List.range_succ_eq_map, List.filterMap_cons]
    simp only [List.getElem?_cons_zero, List.filterMap_map]
    have e : ((fun j => (x :: r)[j]?) ∘ Nat.succ) = fun j => r[j]? := funext fun j => by simp
    rw [e, ih]
theorem filt_len {α : Type} {js : List Nat} {M : List α} (hn : js.Nodup) (hl : ∀ j ∈ js, j < M.length) : js.length ≤ M.length := by
  have := nodupL js (List.range M.length) hn (fun j hj => List.mem_range.2 (hl j hj))
  simpa using this
theorem filt_perm {α : Type} {js : List Nat} {M : List α} (hn : js.Nodup) (hl : ∀ j, j ∈ js ↔ j < M.length) : (js.filterMap (fun j => M[j]?)).Perm M := by
  have : js.Perm (List.range M.length) := (List.perm_ext_iff_of_nodup hn List.nodup_range).2 (fun j => by rw [hl, List.mem_range])
  have h2 := this.filterMap (fun j => M[j]?)
  rw [filt_range] at h2
  exact h2

/-- the state of a loop over a map -/
structure RgI {κ ν : Type} (C : Cx) (w0 : World) (X : XX) (s : St) (ev : ν → AV) (M : List (κ × ν)) (r bm : Nat) (es : Array MapEntry) (js : List Nat) (m : MM) (a : Act) (w : World) : Prop where
  rep : RepS C w0 (withO X (fun b => X.O b ∨ b = r)) s m a w
  it : ∃ seen : Array Nat, w.heap[r]? = some (.mapIter (some bm) es.size seen es.size) ∧ seen.toList = js
  mp : w.heap[bm]? = some (.map es es.size)
  nown : ¬ Owned (shp (hpF s.hp)) m bm
  val : ∀ (j : Nat) (p : κ × ν) (e : MapEntry), M[j]? = some p → es[j]? = some e → RV w (shp (hpF s.hp)) m (ev p.2) e.val

theorem RgI.go {κ ν : Type} {C : Cx} [PwT C] {w0 : World} {X : XX} {s s' : St} {ev : ν → AV} (hfr : ∀ x, Fr (ev x)) {M : List (κ × ν)} {r bm : Nat} {es : Array MapEntry} {js : List Nat} {m m' : MM} {a a' : Act} {w w' : World} (h : RgI C w0 X s ev M r bm es js m a w) (hl : s'.tm.length = s.tm.length)
    (hR : RepS C w (ownX (withO X (fun b => X.O b ∨ b = r)) (hpF s.hp) m) s' m' a' w') : RgI C w0 X s' ev M r bm es js m' a' w' := by
  have hr : Rep C s.tm.length w0 (withO X (fun b => X.O b ∨ b = r)) (tmF s.tm) (hpF s.hp) m a w := h.rep
  have hR' : Rep C s.tm.length w (ownX (withO X (fun b => X.O b ∨ b = r)) (hpF s.hp) m) (tmF s'.tm) (hpF s'.hp) m' a' w' := by rw [← hl]; exact hR
  have hmr : m.O r := by rw [hr.oo]; exact .inr rfl
  obtain ⟨seen, hit, hseen⟩ := h.it
  have hown : ∀ b, b < w.heap.size → Owned (shp (hpF s'.hp)) m' b → Owned (shp (hpF s.hp)) m b := fun b hb q => Rep.owned hR' hr.oo hb q
  refine ⟨?_, ⟨seen, (hR'.kin.block r (lt_of_block hit) ?_).trans hit, hseen⟩, (hR'.kin.block bm (lt_of_block h.mp) ?_).trans h.mp, fun q => h.nown (hown bm (lt_of_block h.mp) q), fun j p e hp he => ?_⟩
  · unfold RepS
    rw [hl]
    exact Rep.unbase hr hR'
  · rintro ⟨i, q1, q2⟩
    exact hr.mem.sep i r q1 q2 hmr
  · rintro ⟨i, q1, q2⟩
    exact h.nown (.inr ⟨i, blk_live.2 q1, q2⟩)
  · refine rv_keep (hfr _) (h.val j p e hp he) hR'.kin.size (fun b hb hno => hR'.kin.block b hb ?_) (fun b hb hno q => hno (hown b hb q))
    rintro ⟨i, q1, q2⟩
    exact hno (.inr ⟨i, blk_live.2 q1, q2⟩)
/-- the step of an iterator and what it says -/
theorem wp_next {C : Cx} {Q : Exit → Act → World → Prop} {n : Nat} {w0 : World} {X : XX} {τ : Nat → AV} {η : Nat → Ent} {m : MM} {a : Act} {w w5 : World} {o1 o2 : Oper} {dN dB : Nat} {vs : Array Value} {bo : Bool} (hR : Rep C n w0 X τ η m a w5) (hrun : (execOp a.eval o1).run C.P w = .ok (.value (.tuple vs)) w5)
    (hvs : vs[0]? = some (.bool bo)) (h1g : o1.guard = none) (h1d : o1.dst = some dN) (hN : dN < n) (h2 : o2.op = .extract (.tmp dN) 0) (h2g : o2.guard = none) (h2d : o2.dst = some dB) (hB : dB < n)
    (hk : ∀ a', Rep C n w0 X (putA (putA τ (some dN) .dead) (some dB) (.c (.bool bo))) η m a' w5 → Q .normal a' w5) : wpOps C.P #[o1, o2] Q [0, 1] a w := by
  refine wpOps_at (o := o1) rfl h1g ?_
  unfold Oper.wp
  rw [hrun, Oper.upon_value, h1d]
  have hA := hR.put (d := some dN) (x := .c (.tuple vs)) hN (RV.c (.tuple vs))
  have hA' := hR.put (d := some dN) (x := .dead) (v := .tuple vs) hN (RV.dead _)
  have hev : (a.put (some dN) (.tuple vs)).eval (.tmp dN) = .tuple vs := by
    have := hA.ev (.tmp dN)
    simp only [evA, putA, if_true] at this
    exact rv_c this
  refine wpOps_at (o := o2) rfl h2g ?_
  unfold Oper.wp
  rw [show (execOp (a.put (some dN) (.tuple vs)).eval o2).run C.P w5 = .ok (.value (.bool bo)) w5 from by simp [execOp, h2, hev, Instr.extract, hvs]]
  rw [Oper.upon_value, h2d]
  exact hk _ (hA'.put (d := some dB) hB (RV.c _))
/-- a loop over a map that the call has made -/
theorem awp_range {C : Cx} [PwT C] {κ ν : Type} {ek : κ → Value} {ev : ν → AV} (hfr : ∀ x, Fr (ev x)) {M : List (κ × ν)} {Q : Exit → St → Prop} {idr idb idn T ver dI dN dB : Nat} {drawr drawn : Bool} {rest : Code} {tm : List AV} {hp : List Ent} {o1 o2 : Oper} {opsr : Array Oper} {y : Operand}
    (J : List ν → Value → St) (hJ : ∀ L v, (J L v).tm.length = tm.length ∧ evA (tmF (J L v).tm) y = .c v)
    (hreg : vcO C opsr [] (opsr.toList.take 1) tm hp [] (fun fs tm' hp' => (drawr = true → indepOk opsr fs = true ∧ backOk opsr.toList 0 = true ∧ sufOk opsr 1 = true) ∧
      (∃ (o : Oper) (x : Operand) (t k e : TypeId), opsr[1]? = some o ∧ opsr.size = 2 ∧ o.op = .range t x ∧ o.guard = none ∧ o.dst = some dI ∧ evA (tmF tm') x = .mp T ver ∧ C.P.underlying t = some (.map k e)) ∧ dI < tm'.length ∧ T < tm'.length ∧ T < hp'.length ∧ tm'.length = tm.length ∧
        hpF hp' T = ⟨ver, some (mBt 1000001 ek ev M)⟩ ∧ ∀ v, leK ⟨tm'.set dI (.c v), hp'.set T ⟨ver + 1, none⟩⟩ (J [] v) True))
    (h1 : o1.op = .next y false) (h1g : o1.guard = none) (h1d : o1.dst = some dN) (hN : dN < tm.length)
    (h2 : o2.op = .extract (.tmp dN) 0) (h2g : o2.guard = none) (h2d : o2.dst = some dB) (hB : dB < tm.length)
    (hn : indepOk #[o1, o2] [] = true ∧ backOk [o1, o2] 0 = true ∧ sufOk #[o1, o2] 0 = true)
    (round : ∀ (L : List ν) (v : Value) (e : MapEntry) (x : ν) (r : Nat), L.length < M.length → v = .pointer (some ⟨r, 0, none⟩) →
      AWP (cxI C r e (ev x)) rest (thenA (fun s' => leK s' (J (L ++ [x]) v) True) (fun _ _ => False)) ⟨((J L v).tm.set dN .dead).set dB (.c (.bool true)), (J L v).hp⟩)
    (last : ∀ (L : List ν) (v : Value), L.Perm (M.map Prod.snd) → AWP C rest (thenA (fun _ => False) (blockA idb Q)) ⟨((J L v).tm.set dN .dead).set dB (.c (.bool false)), (J L v).hp⟩) :
    AWP C (.seq (.region idr opsr drawr) (.block idb (.loop (.seq (.region idn #[o1, o2] drawn) rest)))) Q ⟨tm, hp⟩ := by
  unfold AWP
  intro w0 X m a w hr
  refine wp_seq (wp_regionS 1 (by
    obtain ⟨_, _, _, _, ⟨_, ⟨_, _, _, _, _, _, hos, _⟩, _⟩, _⟩ := vcO_ok _ _ _ _ _ _ hreg
    rw [hos]
    rfl) hreg ?_ hr)
  rintro tm' hp' ⟨⟨o, x, t, k, e, ho0, hos, ho, hog, hod, hox, hot⟩, hdI, hTt, hTh, hlen, hT, hle⟩ m1 a1 w1 hr1
  have hr1' : Rep C tm'.length w0 X (tmF tm') (hpF hp') m1 a1 w1 := hr1
  -- the map
  have hxv := hr1'.ev x
  rw [hox] at hxv
  obtain ⟨bm, es, clock, hu, hbm, hhm, hpw, hborn, hsz, hval⟩ := hr1'.mapAt hT hxv
  obtain ⟨hcl, hbn⟩ := hborn rfl
  subst hcl
  have hbmlt : bm < w1.heap.size := lt_of_block hhm
  have hrun := run_range_map (P := C.P) w1 t k e bm es es.size hot hhm
  have hidx : idxs 1 (opsr.size - 1) = [1] := by rw [hos]; rfl
  rw [hidx]
  refine wpOps_at ho0 hog ?_
  unfold Oper.wp
  rw [show (execOp a1.eval o).run C.P w1 = .ok (.value (.pointer (some ⟨w1.heap.size, 0, none⟩))) (w1.alloc (.mapIter (some bm) es.size #[] es.size)) from by simp [execOp, ho, hu, hrun, Result.andThen]]
  rw [Oper.upon_value, hod]
  -- behind it
  generalize hr0 : w1.heap.size = r
  have hge : w0.heap.size ≤ r := by rw [← hr0]; exact hr1'.kin.size
  have hH := hr1'.hideNew (.mapIter (some bm) es.size #[] es.size)
  rw [hr0] at hH
  generalize hw2 : w1.alloc (.mapIter (some bm) es.size #[] es.size) = w2 at hH
  have hheap : ∀ b, b < r → w2.heap[b]? = w1.heap[b]? := fun b hb => by rw [← hw2]; exact heap_alloc_old w1 _ (by omega)
  have hnew : w2.heap[r]? = some (.mapIter (some bm) es.size #[] es.size) := by rw [← hw2, ← hr0]; exact heap_alloc_new w1 _
  have hP := hH.put (d := some dI) (show dI < tm'.length from hdI) (RV.c (.pointer (some ⟨r, 0, none⟩)))
  rw [← tmF_set hdI] at hP
  have hver : (hpF hp' T).ver < ver + 1 := by rw [hT]; exact Nat.lt_succ_self _
  obtain ⟨hD, hmD⟩ := hP.dropN hTt hver
  have hD' : RepS C w0 (withO X (fun b => X.O b ∨ b = r)) ⟨tm'.set dI (.c (.pointer (some ⟨r, 0, none⟩))), hp'.set T ⟨ver + 1, none⟩⟩ ⟨m1.f, fun b => m1.O b ∨ b = r⟩ (a1.put (some dI) (.pointer (some ⟨r, 0, none⟩))) w2 := by
    unfold RepS
    rw [List.length_set, hp_set hTh]
    exact hD
  obtain ⟨m3, hr3, hown3⟩ := leK_step (hle (.pointer (some ⟨r, 0, none⟩))) hD'
  generalize hv : Value.pointer (some ⟨r, 0, none⟩) = v at *
  have hsz2 : w2.heap.size = r + 1 := by rw [← hw2, ← hr0]; show (w1.heap.push _).size = _; simp
  have hbmr : bm < r := by omega
  have hO3 : ∀ b, b < r → Owned (shp (hpF (J [] v).hp)) m3 b → m1.O b ∨ ∃ i, i ≠ T ∧ (hpF hp' i).blk ≠ none ∧ m1 i = some b := fun b hb q => by
    rcases hown3 b (by omega) q with q | ⟨i, q1, q2⟩
    · rcases q with q | q
      · exact .inl q
      · omega
    · rw [hp_set hTh] at q1
      have q1 := blk_live.1 q1
      by_cases e : i = T
      · subst e; simp [updE] at q1
      · exact .inr ⟨i, e, by simpa [updE, e] using q1, q2⟩
  have hTl : (hpF hp' T).blk ≠ none := by rw [hT]; simp
  have hnown : ¬ Owned (shp (hpF (J [] v).hp)) m3 bm := fun q => by
    rcases hO3 bm hbmr q with q | ⟨i, q1, q2, q3⟩
    · exact hr1'.mem.sep T bm hTl hbm q
    · exact q1 (hr1'.mem.inj i T bm q2 hTl q3 hbm)
  have inv0 : RgI C w0 X (J [] v) ev M r bm es [] m3 (a1.put (some dI) v) w2 := by
    refine ⟨hr3, ⟨#[], hnew, rfl⟩, (hheap bm hbmr).trans hhm, hnown, fun j p e' hp he => ?_⟩
    obtain ⟨e2, g1, _, g3⟩ := hval j p hp
    rw [he] at g1
    injection g1 with g1
    subst g1
    refine rv_keep (hfr _) g3 (by omega) (fun b hb _ => hheap b (by omega)) (fun b hb hno q => hno ?_)
    rcases hO3 b (by omega) q with q | ⟨i, _, q2, q3⟩
    · exact .inl q
    · exact .inr ⟨i, blk_live.2 q2, q3⟩
  have hold : ∀ z ∈ es.toList, z.born < es.size := fun z hz => by
    obtain ⟨j, hj⟩ := List.getElem?_of_mem hz
    have hj' : es[j]? = some z := by simpa using hj
    rw [hbn j z hj']
    exact (Array.getElem?_eq_some_iff.1 hj').1
  have hnd : (es.toList.map (·.born)).Nodup := by
    rw [List.nodup_iff_pairwise_ne, List.pairwise_map, List.pairwise_iff_getElem]
    intro i j hi hj hij
    have e1 := hbn i es.toList[i] (by rw [← Array.getElem?_toList]; exact List.getElem?_eq_getElem hi)
    have e2 := hbn j es.toList[j] (by rw [← Array.getElem?_toList]; exact List.getElem?_eq_getElem hj)
    rw [e1, e2]
    omega
  show (Code.block idb _).wp C.P _ _ _
  have hlJ : ∀ L, (J L v).tm.length = tm.length := fun L => (hJ L v).1
  -- the loop, then the block
  refine wp_block (wp_mono (Q := fun e a' w' => ∃ s' m', s'.tm.length = tm.length ∧ blockA idb Q e s' ∧ RepS C w0 X s' m' a' w') ?_ ?_)
  · refine wp_loop_ghost (fun k a w => ∃ L js m, k = M.length - js.length ∧ js.Nodup ∧ (∀ j ∈ js, j < M.length) ∧ L = js.filterMap (fun j => (M.map Prod.snd)[j]?) ∧ RgI C w0 X (J L v) ev M r bm es js m a w) M.length ⟨[], [], m3, rfl, List.nodup_nil, (fun j hj => by cases hj), rfl, inv0⟩ ?_
    rintro k aa ww ⟨L, js, mm, rfl, hjn, hjl, hL, hI⟩
    have hL0 : L.length ≤ js.length := by rw [hL]; exact List.length_filterMap_le _ _
    refine wp_seq ?_
    have hI0 : Rep C (J L v).tm.length w0 (withO X (fun b => X.O b ∨ b = r)) (tmF (J L v).tm) (hpF (J L v).hp) mm aa ww := hI.rep
    refine wp_regionS (ops := #[o1, o2]) (tm := (J L v).tm) (hp := (J L v).hp) 0 rfl (K := fun tm2 hp2 => tm2 = (J L v).tm ∧ hp2 = (J L v).hp) (fun _ => ⟨fun _ => hn, rfl, rfl⟩) ?_ (Rep.rebase hI0 (PwT.h _ _))
    rintro tm2 hp2 ⟨rfl, rfl⟩ m4 a4 w4 hr4
    have hI4 := RgI.go hfr hI rfl hr4
    have hR4 : Rep C (J L v).tm.length w0 (withO X (fun b => X.O b ∨ b = r)) (tmF (J L v).tm) (hpF (J L v).hp) m4 a4 w4 := hI4.rep
    obtain ⟨seen, hit, hseen⟩ := hI4.it
    have hlen2 := hlJ L
    have hy := hR4.ev y
    rw [(hJ L v).2] at hy
    have hy := rv_c hy
    have hidx0 : idxs 0 (#[o1, o2].size - 0) = [0, 1] := rfl
    rw [hidx0]
    have hmr : m4.O r := by rw [hR4.oo]; exact .inr rfl
    rcases run_next_at (P := C.P) w4 o1.type r bm es.size es.size seen es es.size hit hI4.mp hold (Nat.le_refl _) with ⟨h0, hrun⟩ | ⟨e, he, w5, hw5, hrun⟩
    · -- nothing is left
      have hrun' : (execOp a4.eval o1).run C.P w4 = .ok (.value (.tuple #[.bool false])) w4 := by
        rw [hv] at hrun
        simp [execOp, h1, hy, hrun, Result.andThen]
      refine wp_next hR4 hrun' rfl h1g h1d (by omega) h2 h2g h2d (by omega) (fun a5 h5 => ?_)
      show rest.wp C.P _ a5 w4
      have hperm : L.Perm (M.map Prod.snd) := by
        rw [hL]
        refine filt_perm hjn (fun j => ⟨fun h => by simpa using hjl j h, fun hj => Classical.byContradiction fun hnj => ?_⟩)
        have hj' : j < es.size := by rw [hsz]; simpa using hj
        have hempty : leftOf es seen = #[] := Array.size_eq_zero_iff.1 h0
        unfold leftOf at hempty
        rw [Array.filter_eq_empty_iff] at hempty
        have := hempty es[j] (Array.getElem_mem hj')
        rw [hbn j _ (Array.getElem?_eq_getElem hj')] at this
        refine this ?_
        have hc : ¬ j ∈ seen := fun q => hnj (by rw [← hseen]; exact Array.mem_toList_iff.2 q)
        simpa using hc
      have hS : RepS C w0 X ⟨((J L v).tm.set dN .dead).set dB (.c (.bool false)), (J L v).hp⟩ ⟨m4.f, X.O⟩ a5 w4 := by
        unfold RepS
        rw [List.length_set, List.length_set, tmF_set (by rw [List.length_set]; omega), tmF_set (by omega)]
        exact Rep.unhideO h5 (fun b q => .inl q)
      have hl := last L v hperm
      unfold AWP at hl
      refine wp_mono (hl w0 X _ a5 w4 hS) ?_
      rintro ex a' w' ⟨s', m', g1, g2, g3⟩
      have g1' : s'.tm.length = tm.length := by rw [g1]; simp [hlen2]
      cases ex with
      | normal => exact g2.elim
      | _ => exact ⟨s', m', g1', g2, g3⟩
    · -- one entry more
      have hel := he
      unfold leftOf at hel
      have hel := Array.mem_toList_iff.1 hel
      rw [Array.mem_filter] at hel
      obtain ⟨hee, hec⟩ := hel
      obtain ⟨j, hjlt, hje⟩ := Array.mem_iff_getElem.1 hee
      have hj? : es[j]? = some e := by rw [Array.getElem?_eq_getElem hjlt, hje]
      have hb := hbn j e hj?
      have hnj : j ∉ js := fun q => by
        rw [hb] at hec
        have : j ∈ seen := Array.mem_toList_iff.1 (by rw [hseen]; exact q)
        simp [this] at hec
      have hjM : j < M.length := by rw [← hsz]; exact hjlt
      have hMj : M[j]? = some M[j] := List.getElem?_eq_getElem hjM
      have hjn' : (js ++ [j]).Nodup := List.nodup_append.2 ⟨hjn, by simp, fun a ha b hb => by simp at hb; rw [hb]; exact fun q => hnj (q ▸ ha)⟩
      have hjl' : ∀ i ∈ js ++ [j], i < M.length := fun i hi => by
        rcases List.mem_append.1 hi with q | q
        · exact hjl i q
        · simp at q; rw [q]; exact hjM
      have hlt : js.length + 1 ≤ M.length := by have := filt_len hjn' hjl'; simpa using this
      have hR5 : Rep C (J L v).tm.length w0 (withO X (fun b => X.O b ∨ b = r)) (tmF (J L v).tm) (hpF (J L v).hp) m4 a4 w5 := by
        rcases hw5 with rfl | rfl
        · exact hR4
        · exact Rep.drew hR4 _
      have hw5h : w5.heap = w4.heap := by rcases hw5 with rfl | rfl <;> rfl
      have hrlt : r < w4.heap.size := lt_of_block hit
      generalize hw6 : setBlock w5 r (.mapIter (some bm) es.size (seen.push e.born) es.size) = w6 at hrun
      have hs6 : w6.heap.size = w4.heap.size := by rw [← hw6, ← hw5h]; simp [setBlock]
      have hg6 : ∀ b, b ≠ r → w6.heap[b]? = w4.heap[b]? := fun b hb => by rw [← hw6, ← hw5h]; simp [setBlock, Array.getElem?_setIfInBounds, Ne.symm hb]
      have hr6 : w6.heap[r]? = some (.mapIter (some bm) es.size (seen.push e.born) es.size) := by
        rw [← hw6]
        simp [setBlock, Array.getElem?_setIfInBounds, hw5h, hrlt]
      have hR6 : Rep C (J L v).tm.length w0 (withO X (fun b => X.O b ∨ b = r)) (tmF (J L v).tm) (hpF (J L v).hp) m4 a4 w6 :=
        hR5.hidSet (r := r) (.inr rfl) hge (by rw [hs6, hw5h]) (fun b hb => by rw [hg6 b hb, hw5h]) (by rw [← hw6]; rfl) (by rw [← hw6]; rfl) (by rw [← hw6]; rfl)
      have hrun' : (execOp a4.eval o1).run C.P w4 = .ok (.value (.tuple #[.bool true, e.key, e.val])) w6 := by
        rw [hv] at hrun
        simp [execOp, h1, hy, hrun, Result.andThen]
      refine wp_next hR6 hrun' rfl h1g h1d (by omega) h2 h2g h2d (by omega) (fun a5 h5 => ?_)
      show rest.wp C.P _ a5 w6
      have hS : RepS C w0 (withO X (fun b => X.O b ∨ b = r)) ⟨((J L v).tm.set dN .dead).set dB (.c (.bool true)), (J L v).hp⟩ m4 a5 w6 := by
        unfold RepS
        rw [List.length_set, List.length_set, tmF_set (by rw [List.length_set]; omega), tmF_set (by omega)]
        exact h5
      have hbmne : bm ≠ r := by omega
      have hbm6 : w6.heap[bm]? = some (.map es es.size) := (hg6 bm hbmne).trans hI4.mp
      have hne : ∀ b, ¬ Owned (shp (hpF (J L v).hp)) m4 b → w6.heap[b]? = w4.heap[b]? := fun b hno => hg6 b (fun q => hno (.inl (by rw [q]; exact hmr)))
      have hI6 : RgI C w0 X ⟨((J L v).tm.set dN .dead).set dB (.c (.bool true)), (J L v).hp⟩ ev M r bm es (js ++ [j]) m4 a5 w6 :=
        ⟨hS, ⟨seen.push e.born, hr6, by rw [Array.toList_push, hseen, hb]⟩, hbm6, hI4.nown, fun i p z hp hz => rv_keep (hfr _) (hI4.val i p z hp hz) (by omega) (fun b _ hno => hne b hno) (fun b _ hno => hno)⟩
      have hp := round L v e M[j].2 r (by omega) hv.symm
      unfold AWP at hp
      have hIt : ItP r e (ev M[j].2) w6 (ownX (withO X (fun b => X.O b ∨ b = r)) (hpF (J L v).hp) m4) := by
        refine ⟨bm, es.size, seen, es.size, es, hr6, hbm6, ?_, ?_, Array.mem_toList_iff.2 hee, hnd, rv_keep (hfr _) (hI4.val j _ e hMj hj?) (by omega) (fun b _ hno => hne b hno) (fun b _ hno q => hno ?_), hfr _⟩
        · rintro ⟨i, q1, q2⟩
          exact hR4.mem.sep i r q1 q2 hmr
        · rintro ⟨i, q1, q2⟩
          exact hI4.nown (.inr ⟨i, blk_live.2 q1, q2⟩)
        · rcases owned_nov.1 q with ⟨i, q1, q2⟩ | q
          · exact .inr ⟨i, blk_live.2 q1, q2⟩
          · exact .inl (by rw [hR4.oo]; exact q)
      refine wp_mono (hp w6 _ m4 a5 w6 (Rep.toI (Rep.rebase hS (PwT.h _ _)) hIt)) ?_
      rintro ex a' w' ⟨s', m', g1, g2, g3⟩
      cases ex with
      | normal =>
        have g3' : RepS C w6 (ownX (withO X (fun b => X.O b ∨ b = r)) (hpF (J L v).hp) m4) s' m' a' w' := Rep.ofI g3
        obtain ⟨m7, h7, _⟩ := leK_step g2 g3'
        have hI7 := RgI.go (s' := J (L ++ [M[j].2]) v) hfr hI6 (by simp [hlJ]) h7
        refine ⟨M.length - (js ++ [j]).length, by simp; omega, L ++ [M[j].2], js ++ [j], m7, rfl, hjn', hjl', ?_, hI7⟩
        rw [List.filterMap_append, ← hL]
        simp [hMj]
      | _ => exact g2.elim
  · rintro e a' w' ⟨s', m', h1, h2, h3⟩
    cases e with
    | exit j =>
      simp only [Exit.inBlock]
      have h2' : ifB (j.beq idb) (Q .normal s') (Q (.exit j) s') := h2
      split
      · rename_i hj
        rw [show j.beq idb = true from by rw [hj]; exact Nat.beq_refl idb] at h2'
        exact ⟨s', m', h1, h2', h3⟩
      · rename_i hj
        have : j.beq idb = false := by
          cases hb : j.beq idb
          · rfl
          · exact absurd (Nat.eq_of_beq_eq_true hb) hj
        rw [this] at h2'
        exact ⟨s', m', h1, h2', h3⟩
    | _ => exact ⟨s', m', h1, h2, h3⟩
end Go.Proofs.YtflgpccacloadaaDoor.Am
/- Models printed by my decompiler, and the proofs that the code computes them. -/
namespace Go.Proofs.YtflgpccacloadaaDoor.Am
open Go.RowKit
theorem ci_XRound {p K : Prop} (k : K) (h : p := by first | rfl | exact ⟨rfl, rfl⟩ | exact BW.mpf rfl rfl rfl FrI.h rfl | exact cloK3 rfl rfl rfl rfl rfl rfl rfl rfl rfl | exact CloK.bw (BW.fr (by assumption)) | exact BW.fr FrV.h | (refine BW.fr ?_; assumption) | (refine ⟨rfl, ?_⟩; (simp [cGSet, cGAtom, cS, cGRule, cA2_cS, cF, take_len_map]; done)) | (refine RowK.same ?_ FrI.h; first | rfl | (simp [cGSet, cGAtom, cS, cGRule, cA2_cS, cF, take_len_map]; done)) | (refine row_part1 ?_; (repeat (first | exact BWL.nil | exact bwll_nil | exact bw_c | exact BW.sl | exact BW.nil | exact bwll_same rfl FrI.h | refine BWL.cons ?_ ?_ | refine bwll_cons ?_ ?_ | (refine bw_own3 rfl rfl rfl FrI.h ?_ ?_ ?_) | exact BW.mpf rfl rfl rfl FrI.h rfl | exact cloK3 rfl rfl rfl rfl rfl rfl rfl rfl rfl | exact CloK.bw (BW.fr (by assumption)) | exact BW.fr FrV.h | exact BW.fr (by assumption) | refine bw_agg ?_ | refine bw_clo ?_ | refine bw_ptr rfl rfl rfl ?_ | (refine bw_own rfl rfl rfl ?_ FrI.h ?_ ?_) | assumption | omega | rfl | (rw [List.length_map, ← List.length_append]; assumption) | (refine bwll_same ?_ FrI.h; (simp [cGSet, cGAtom, cS, cGRule, cA2_cS, cF] <;> fail)) | (rw [List.map_set]; refine bwll_set (by first | rfl | omega | simp) ?_ ?_) | refine bwll_set (by first | rfl | omega | simp) ?_ ?_ | (rw [List.map_replicate]; refine bwll_rep ?_) | refine bwll_rep ?_ | (rw [List.map_append]; refine bwll_append ?_ ?_) | refine bwll_append ?_ ?_ | (simp [cGSet, cGAtom, cS, cGRule, cA2_cS, cF, take_len_map] <;> fail) | (rw [List.drop_zero, List.take_of_length_le] <;> first | rfl | (simp [cGSet, cGAtom, cS, cGRule, cA2_cS, cF] <;> fail)) | (simp; omega) | (simp only [List.length_map, List.length_append, List.drop_zero, List.length_cons, List.length_nil, Nat.zero_add, Nat.add_zero] at *; omega))); done) | ((repeat (first | exact BWL.nil | exact bwll_nil | exact bw_c | exact BW.sl | exact BW.nil | exact bwll_same rfl FrI.h | refine BWL.cons ?_ ?_ | refine bwll_cons ?_ ?_ | (refine bw_own3 rfl rfl rfl FrI.h ?_ ?_ ?_) | exact BW.mpf rfl rfl rfl FrI.h rfl | exact cloK3 rfl rfl rfl rfl rfl rfl rfl rfl rfl | exact CloK.bw (BW.fr (by assumption)) | exact BW.fr FrV.h | exact BW.fr (by assumption) | refine bw_agg ?_ | refine bw_clo ?_ | refine bw_ptr rfl rfl rfl ?_ | (refine bw_own rfl rfl rfl ?_ FrI.h ?_ ?_) | assumption | omega | rfl | (rw [List.length_map, ← List.length_append]; assumption) | (refine bwll_same ?_ FrI.h; (simp [cGSet, cGAtom, cS, cGRule, cA2_cS, cF] <;> fail)) | (rw [List.map_set]; refine bwll_set (by first | rfl | omega | simp) ?_ ?_) | refine bwll_set (by first | rfl | omega | simp) ?_ ?_ | (rw [List.map_replicate]; refine bwll_rep ?_) | refine bwll_rep ?_ | (rw [List.map_append]; refine bwll_append ?_ ?_) | refine bwll_append ?_ ?_ | (simp [cGSet, cGAtom, cS, cGRule, cA2_cS, cF, take_len_map] <;> fail) | (rw [List.drop_zero, List.take_of_length_le] <;> first | rfl | (simp [cGSet, cGAtom, cS, cGRule, cA2_cS, cF] <;> fail)) | (simp; omega) | (simp only [List.length_map, List.length_append, List.drop_zero, List.length_cons, List.length_nil, Nat.zero_add, Nat.add_zero] at *; omega))); done) | (simp [cGSet, cGAtom, cS, cGRule, cA2_cS, cF, take_len_map]; done)) : p ∧ K := ⟨h, k⟩
theorem pr_XRound {p K : Prop} (k : K) (h : p := by first | assumption | exact Int.natCast_nonneg _ | exact Nat.le_refl _ | exact Nat.zero_le _ | omega | (simp; done) | (simp; omega)) : p ∧ K := ⟨h, k⟩
theorem pl_XRound {p K : Prop} (k : K) (h : p := by first | rfl | exact List.length_map _ | (simp; done) | (simp; omega)) : p ∧ K := ⟨h, k⟩
theorem pe_XRound {p K : Prop} (k : K) (h : p := by first | omega | (simp; omega) | (simp only [List.length_map, List.length_cons, List.length_nil, List.length_append]; omega) | (simp only [List.length_map, List.drop_zero, List.length_cons, List.length_nil, Nat.zero_add, Nat.add_zero] at *; omega)) : p ∧ K := ⟨h, k⟩
theorem dr_XRound {b : Bool} {p K : Prop} (k : K) (h : b = true → p := by intro h; first | (cases h; done) | exact ⟨by kernel_rfl, by kernel_rfl⟩) : (b = true → p) ∧ K := ⟨h, k⟩
theorem clf_XRound {C : Cx} {n : Nat} {o : Oper} {τ : Nat → AV} {η : Nat → Ent} {f : FuncId} {os : Array Operand} {ats : Array TypeId} {r : AV} {xs ys : List AV} {K : Foot → Prop} (us : List (Nat × Ent)) (ho : o.op = .call ⟨.value (.func f), os, ats⟩) (hargs : os.toList.map (evA τ) = xs) (hc : ACall C f ys r) (k : K ⟨r, us, []⟩)
    (hus : allUs η us := by repeat (first | exact trivial | refine And.intro rfl ?_)) (hul : ltUs n us := by repeat (first | exact trivial | refine And.intro (Nat.le_of_ble_eq_true rfl) ?_)) (hd : InB n o.dst := by exact Nat.le_of_ble_eq_true rfl) (hb : BWL η (dropB η (us.map (·.1))) xs ys := by repeat (first | exact BWL.nil | exact bwll_nil | exact bw_c | exact BW.sl | exact BW.nil | exact bwll_same rfl FrI.h | refine BWL.cons ?_ ?_ | refine bwll_cons ?_ ?_ | (refine bw_own3 rfl rfl rfl FrI.h ?_ ?_ ?_) | exact BW.mpf rfl rfl rfl FrI.h rfl | refine CloK.bw ?_ | exact BW.fr FrV.h | exact BW.fr (by assumption) | refine bw_agg ?_ | refine bw_clo ?_ | refine bw_ptr rfl rfl rfl ?_ | (refine bw_own rfl rfl rfl ?_ FrI.h ?_ ?_) | assumption | omega | rfl | (rw [List.length_map, ← List.length_append]; assumption) | (refine bwll_same ?_ FrI.h; (simp [cGSet, cGAtom, cS, cGRule, cA2_cS, cF] <;> fail)) | (rw [List.map_set]; refine bwll_set (by first | rfl | omega | simp) ?_ ?_) | refine bwll_set (by first | rfl | omega | simp) ?_ ?_ | (rw [List.map_replicate]; refine bwll_rep ?_) | refine bwll_rep ?_ | (rw [List.map_append]; refine bwll_append ?_ ?_) | refine bwll_append ?_ ?_ | (simp [cGSet, cGAtom, cS, cGRule, cA2_cS, cF, take_len_map] <;> fail) | (rw [List.drop_zero, List.take_of_length_le] <;> first | rfl | (simp [cGSet, cGAtom, cS, cGRule, cA2_cS, cF] <;> fail)) | (simp; omega) | (simp only [List.length_map, List.length_append, List.drop_zero, List.length_cons, List.length_nil, Nat.zero_add, Nat.add_zero] at *; omega))) (hr : fr1 r := by repeat (first | exact trivial | exact fr1_eA _ | exact fr0_eA _ | exact fr1_fr (by assumption) | exact FrV.h | exact fr1_fr FrV.h | refine And.intro ?_ ?_)) : ∃ f : Foot, LF C n o τ η f ∧ K f := ⟨_, lf_callF us (allUs_at hus) (ltUs_at hul) ho hd hargs hb hc hr, k⟩
theorem clg_XRound {C : Cx} {n : Nat} {o : Oper} {τ : Nat → AV} {η : Nat → Ent} {f : FuncId} {os : Array Operand} {ats : Array TypeId} {r : AV} {xs ys : List AV} {bs bs' : List (Nat × Blk)} {ks : List Nat} {K : Foot → Prop} (ρ : List (Nat × Nat)) (fz : List Nat) (go nb : List (Nat × Ent)) (r' : AV) (ho : o.op = .call ⟨.value (.func f), os, ats⟩) (hargs : os.toList.map (evA τ) = xs)
    (hc : ACallG C f ys bs ks r bs') (k : K ⟨r', go ++ nb, []⟩) (hd : InB n o.dst := by exact Nat.le_of_ble_eq_true rfl) (hok : okC ρ fz bs ks bs' (idsE go) = true := by rfl) (hgo : allUs η go := by repeat (first | exact trivial | refine And.intro rfl ?_)) (hgl : ltUs n go := by repeat (first | exact trivial | refine And.intro (Nat.le_of_ble_eq_true rfl) ?_))
    (hw : GWL η (fE bs) (lk ρ) (fun i => inB fz i = true) (fun i => inB (keys bs) i = true) xs ys := by repeat (first | exact True.intro | exact gb_nil rfl rfl | exact gb_take rfl ⟨rfl, rfl, rfl⟩ List.map_take FrI.h | exact gb_take rfl ⟨rfl, rfl, rfl⟩ (takeC (by omega)) FrI.h | exact gb_take rfl ⟨rfl, rfl, rfl⟩ (takeC0 (by omega)) FrI.h |  refine gb_some ⟨rfl, rfl, rfl⟩ ?_ | refine And.intro ?_ ?_ | refine gw_ren rfl rfl rfl rfl rfl ?_ | exact gw_oren rfl rfl rfl rfl rfl | exact gw_opren rfl rfl rfl rfl rfl | exact gw_onil rfl rfl | exact gw_mren rfl rfl rfl rfl | refine gw_pren rfl rfl rfl rfl rfl | exact gw_thaw rfl rfl rfl | refine gw_tup ?_ | refine gw_ifc ?_ | exact GWL.nil | exact gwll_nil | exact gw_c | exact GW.sl | exact GW.nil | exact gwll_same rfl FrI.h | refine GWL.cons ?_ ?_ | refine gwll_cons ?_ ?_ | (refine gw_own3 rfl rfl rfl FrI.h ?_ ?_ ?_) | exact GW.mpf rfl rfl rfl FrI.h rfl | refine CloK.bw ?_ | exact GW.fr FrV.h | exact GW.fr (by assumption) | refine gw_agg ?_ | refine gw_clo ?_ | refine gw_ptr rfl rfl rfl ?_ | (refine gw_own rfl rfl rfl ?_ FrI.h ?_ ?_) | assumption | omega | rfl | (rw [List.length_map, ← List.length_append]; assumption) | (refine gwll_same ?_ FrI.h; (simp [cGSet, cGAtom, cS, cGRule, cA2_cS, cF] <;> fail)) | (rw [List.map_set]; refine gwll_set (by first | rfl | omega | simp) ?_ ?_) | refine gwll_set (by first | rfl | omega | simp) ?_ ?_ | (rw [List.map_replicate]; refine gwll_rep ?_) | refine gwll_rep ?_ | (rw [List.map_append]; refine gwll_append ?_ ?_) | refine gwll_append ?_ ?_ | (simp [cGSet, cGAtom, cS, cGRule, cA2_cS, cF, take_len_map] <;> fail) | (rw [List.drop_zero, List.take_of_length_le] <;> first | rfl | (simp [cGSet, cGAtom, cS, cGRule, cA2_cS, cF] <;> fail)) | (simp; omega) | (simp only [List.length_map, List.length_append, List.drop_zero, List.length_cons, List.length_nil, Nat.zero_add, Nat.add_zero] at *; omega))) (hb : GBL η (fE bs) (lk ρ) (fun i => inB fz i = true) (fun i => inB (keys bs) i = true) bs := by repeat (first | exact True.intro | exact gb_nil rfl rfl | exact gb_take rfl ⟨rfl, rfl, rfl⟩ List.map_take FrI.h | exact gb_take rfl ⟨rfl, rfl, rfl⟩ (takeC (by omega)) FrI.h | exact gb_take rfl ⟨rfl, rfl, rfl⟩ (takeC0 (by omega)) FrI.h |  refine gb_some ⟨rfl, rfl, rfl⟩ ?_ | refine And.intro ?_ ?_ | refine gw_ren rfl rfl rfl rfl rfl ?_ | exact gw_oren rfl rfl rfl rfl rfl | exact gw_opren rfl rfl rfl rfl rfl | exact gw_onil rfl rfl | exact gw_mren rfl rfl rfl rfl | refine gw_pren rfl rfl rfl rfl rfl | exact gw_thaw rfl rfl rfl | refine gw_tup ?_ | refine gw_ifc ?_ | exact GWL.nil | exact gwll_nil | exact gw_c | exact GW.sl | exact GW.nil | exact gwll_same rfl FrI.h | refine GWL.cons ?_ ?_ | refine gwll_cons ?_ ?_ | (refine gw_own3 rfl rfl rfl FrI.h ?_ ?_ ?_) | exact GW.mpf rfl rfl rfl FrI.h rfl | refine CloK.bw ?_ | exact GW.fr FrV.h | exact GW.fr (by assumption) | refine gw_agg ?_ | refine gw_clo ?_ | refine gw_ptr rfl rfl rfl ?_ | (refine gw_own rfl rfl rfl ?_ FrI.h ?_ ?_) | assumption | omega | rfl | (rw [List.length_map, ← List.length_append]; assumption) | (refine gwll_same ?_ FrI.h; (simp [cGSet, cGAtom, cS, cGRule, cA2_cS, cF] <;> fail)) | (rw [List.map_set]; refine gwll_set (by first | rfl | omega | simp) ?_ ?_) | refine gwll_set (by first | rfl | omega | simp) ?_ ?_ | (rw [List.map_replicate]; refine gwll_rep ?_) | refine gwll_rep ?_ | (rw [List.map_append]; refine gwll_append ?_ ?_) | refine gwll_append ?_ ?_ | (simp [cGSet, cGAtom, cS, cGRule, cA2_cS, cF, take_len_map] <;> fail) | (rw [List.drop_zero, List.take_of_length_le] <;> first | rfl | (simp [cGSet, cGAtom, cS, cGRule, cA2_cS, cF] <;> fail)) | (simp; omega) | (simp only [List.length_map, List.length_append, List.drop_zero, List.length_cons, List.length_nil, Nat.zero_add, Nat.add_zero] at *; omega)))
    (hr : GW (fE bs') (updAll η (go ++ nb)) (lk (backN ρ bs')) (fun _ => False) (fun i => inB (idsE nb) i = true) r r' := by repeat (first | exact True.intro | exact gb_nil rfl rfl | exact gb_take rfl ⟨rfl, rfl, rfl⟩ List.map_take FrI.h | exact gb_take rfl ⟨rfl, rfl, rfl⟩ (takeC (by omega)) FrI.h | exact gb_take rfl ⟨rfl, rfl, rfl⟩ (takeC0 (by omega)) FrI.h |  refine gb_some ⟨rfl, rfl, rfl⟩ ?_ | refine And.intro ?_ ?_ | refine gw_ren rfl rfl rfl rfl rfl ?_ | exact gw_oren rfl rfl rfl rfl rfl | exact gw_opren rfl rfl rfl rfl rfl | exact gw_onil rfl rfl | exact gw_mren rfl rfl rfl rfl | refine gw_pren rfl rfl rfl rfl rfl | exact gw_thaw rfl rfl rfl | refine gw_tup ?_ | refine gw_ifc ?_ | exact GWL.nil | exact gwll_nil | exact gw_c | exact GW.sl | exact GW.nil | exact gwll_same rfl FrI.h | refine GWL.cons ?_ ?_ | refine gwll_cons ?_ ?_ | (refine gw_own3 rfl rfl rfl FrI.h ?_ ?_ ?_) | exact GW.mpf rfl rfl rfl FrI.h rfl | refine CloK.bw ?_ | exact GW.fr FrV.h | exact GW.fr (by assumption) | refine gw_agg ?_ | refine gw_clo ?_ | refine gw_ptr rfl rfl rfl ?_ | (refine gw_own rfl rfl rfl ?_ FrI.h ?_ ?_) | assumption | omega | rfl | (rw [List.length_map, ← List.length_append]; assumption) | (refine gwll_same ?_ FrI.h; (simp [cGSet, cGAtom, cS, cGRule, cA2_cS, cF] <;> fail)) | (rw [List.map_set]; refine gwll_set (by first | rfl | omega | simp) ?_ ?_) | refine gwll_set (by first | rfl | omega | simp) ?_ ?_ | (rw [List.map_replicate]; refine gwll_rep ?_) | refine gwll_rep ?_ | (rw [List.map_append]; refine gwll_append ?_ ?_) | refine gwll_append ?_ ?_ | (simp [cGSet, cGAtom, cS, cGRule, cA2_cS, cF, take_len_map] <;> fail) | (rw [List.drop_zero, List.take_of_length_le] <;> first | rfl | (simp [cGSet, cGAtom, cS, cGRule, cA2_cS, cF] <;> fail)) | (simp; omega) | (simp only [List.length_map, List.length_append, List.drop_zero, List.length_cons, List.length_nil, Nat.zero_add, Nat.add_zero] at *; omega)))
    (hnb : nbOk n η (updAll η (go ++ nb)) ρ ks (fE bs') (lk (backN ρ bs')) (fun i => inB (idsE nb) i = true) bs' nb := by repeat (first | exact True.intro | rfl | exact Nat.le_of_ble_eq_true rfl | exact gb_nil rfl rfl | exact gb_take rfl ⟨rfl, rfl, rfl⟩ List.map_take FrI.h | exact gb_take rfl ⟨rfl, rfl, rfl⟩ (takeC (by omega)) FrI.h | exact gb_take rfl ⟨rfl, rfl, rfl⟩ (takeC0 (by omega)) FrI.h |  refine gb_some ⟨rfl, rfl, rfl⟩ ?_ | refine And.intro ?_ ?_ | refine gw_ren rfl rfl rfl rfl rfl ?_ | exact gw_oren rfl rfl rfl rfl rfl | exact gw_opren rfl rfl rfl rfl rfl | exact gw_onil rfl rfl | exact gw_mren rfl rfl rfl rfl | refine gw_pren rfl rfl rfl rfl rfl | exact gw_thaw rfl rfl rfl | refine gw_tup ?_ | refine gw_ifc ?_ | exact GWL.nil | exact gwll_nil | exact gw_c | exact GW.sl | exact GW.nil | exact gwll_same rfl FrI.h | refine GWL.cons ?_ ?_ | refine gwll_cons ?_ ?_ | (refine gw_own3 rfl rfl rfl FrI.h ?_ ?_ ?_) | exact GW.mpf rfl rfl rfl FrI.h rfl | refine CloK.bw ?_ | exact GW.fr FrV.h | exact GW.fr (by assumption) | refine gw_agg ?_ | refine gw_clo ?_ | refine gw_ptr rfl rfl rfl ?_ | (refine gw_own rfl rfl rfl ?_ FrI.h ?_ ?_) | assumption | omega | rfl | (rw [List.length_map, ← List.length_append]; assumption) | (refine gwll_same ?_ FrI.h; (simp [cGSet, cGAtom, cS, cGRule, cA2_cS, cF] <;> fail)) | (rw [List.map_set]; refine gwll_set (by first | rfl | omega | simp) ?_ ?_) | refine gwll_set (by first | rfl | omega | simp) ?_ ?_ | (rw [List.map_replicate]; refine gwll_rep ?_) | refine gwll_rep ?_ | (rw [List.map_append]; refine gwll_append ?_ ?_) | refine gwll_append ?_ ?_ | (simp [cGSet, cGAtom, cS, cGRule, cA2_cS, cF, take_len_map] <;> fail) | (rw [List.drop_zero, List.take_of_length_le] <;> first | rfl | (simp [cGSet, cGAtom, cS, cGRule, cA2_cS, cF] <;> fail)) | (simp; omega) | (simp only [List.length_map, List.length_append, List.drop_zero, List.length_cons, List.length_nil, Nat.zero_add, Nat.add_zero] at *; omega))) : ∃ f : Foot, LF C n o τ η f ∧ K f := ⟨_, lf_callG ρ fz go nb ho hd hargs hc hok hgo hgl hw hb hr hnb, k⟩
def M_datalog_round_L1 (a0 : GSet) (a1 : List GRule) (g : Nat) : Nat → Int → Int → (List (ByteArray × GAtom)) → Option ((List (ByteArray × GAtom)) ⊕ ((Option GSet) × Er))
  | 0, _, _, _ => none
  | k28 + 1, v25, v26, v27 =>
    sel (decide (v26 < ((a1.map cGRule).length : Int)))
     (ix a1 v26 (fun y29 =>
       ob1 (M_stratagem_datalog_matcher_from g ({ set := a0, body := y29.Body, unequal := y29.Unequal, left := v25, bind := [], full := false, rule := y29, heads := v27 : GMat }) 0) (fun c30 =>
        sel c30.full
         (some (.inr (none, (Er.no 10))))
         (M_datalog_round_L1 a0 a1 g k28 c30.left (IntKind.i64.wrap (v26 + 1)) c30.heads))))
     (some (.inl v27))
def M_datalog_round (g : Nat) (a0 : GSet) (a1 : List GRule) : Option ((Option GSet) × Er) :=
  ob1 (M_datalog_round_L1 a0 a1 g ((((a1.map cGRule).length : Int)).toNat + 1) 1048576 0 [] : Option ((List (ByteArray × GAtom)) ⊕ ((Option GSet) × Er)))
   (osum
   (fun v14 => ob1 (M_cloneN a0) (fun z31 =>
      grd ((z31 ++ v14.map Prod.snd).length * 40 ≤ 140737488355328) (ob1 (M_datalog_made g (z31 ++ v14.map Prod.snd)) (fun z32 =>
       some (z32, Er.nil)))))
   (fun (r15, r16) => some (r15, r16)))
set_option maxHeartbeats 16000000 in
set_option maxRecDepth 100000 in
theorem A_datalog_round (g : Nat) (a0 : GSet) (a1 : List GRule) {r1 : Option GSet} {r2 : Er} (h : M_datalog_round g a0 a1 = some (r1, r2)) : ACall cx 49 [.pim [.sl 2 (a0.map cGAtom), .mpi (mE kF vR (formsM a0))] 0, .sl 4 (a1.map cGRule)] (.tup [oGSet r1, eA r2]) := by
  refine aOf Tryd.func49 rfl (by decide) rfl (Nat.le_of_ble_eq_true rfl) ?_
  intro _
  unfold M_datalog_round at h
  refine aSq ?_
  refine aRg ?_
  intro _
  refine dr_XRound ?_
  refine aSq ?_
  refine aRg ?_
  intro _
  refine dr_XRound ?_
  refine aSq ?_
  refine aRg ?_
  intro _
  refine ⟨_, lf_mapnewT 1000001 kS vA rfl rfl (Nat.le_of_ble_eq_true rfl) rfl, ?_⟩
  intro _
  refine dr_XRound ?_
  obtain ⟨o1, h, hK2⟩ := ob1_ok h
  refine awp_cut (α := List (ByteArray × GAtom)) (fun v14 => mkS 63 [(0, .pim [.sl 2 (a0.map cGAtom), .mpi (mE kF vR (formsM a0))] 0), (7, .ptr 7 0 0 0)] [(7, ⟨102, 1, true, [[.mp 14 0]]⟩), (14, mBt 1000001 kS vA v14)]) (fun v => o1 = (.inl v)) ?_ ?_
  · refine aSq ?_
    refine aRg ?_
    intro _
    refine dr_XRound ?_
    refine aBk ?_
    refine awp_loop (α := Nat × Int × Int × (List (ByteArray × GAtom))) (fun x => mkS 63 [(0, .pim [.sl 2 (a0.map cGAtom), .mpi (mE kF vR (formsM a0))] 0), (6, .c (.int .i64 x.2.1)), (7, .ptr 7 0 0 0), (15, .sl 4 (a1.map cGRule)), (16, .c (.int .i64 ((a1.map cGRule).length : Int))), (17, .c (.int .i64 x.2.2.1))] [(7, ⟨102, 1, true, [[.mp 14 0]]⟩), (14, mBt 1000001 kS vA x.2.2.2)]) (fun x => M_datalog_round_L1 a0 a1 g x.1 x.2.1 x.2.2.1 x.2.2.2 = some o1) (fun x => x.1) ((((a1.map cGRule).length : Int)).toNat + 1, 1048576, 0, []) h ?_ ?_
    · repeat (first | exact True.intro | refine ci_XRound ?_)
    · intro x3 h
      intro _
      obtain ⟨k28, m4, h⟩ := succ_of (f := fun n => M_datalog_round_L1 a0 a1 g n x3.2.1 x3.2.2.1 x3.2.2.2) rfl h
      replace h : M_datalog_round_L1 a0 a1 g (k28 + 1) x3.2.1 x3.2.2.1 x3.2.2.2 = some o1 := h
      rw [M_datalog_round_L1] at h
      refine aSq ?_
      refine aRg ?_
      intro _
      refine dr_XRound ?_
      refine aSq ?_
      refine aCd ?_
      intro _
      refine spl h (fun c5 h => ?_) (fun c5 h => ?_)
      · refine aSk ?_
        refine aSq ?_
        refine aBk ?_
        refine aSq ?_
        refine aRg ?_
        intro _
        obtain ⟨y29, w6, q7, h⟩ := ix_ok h
        refine Exists.intro (cGRule y29) (And.intro (map_at' w6) ?_)
        intro _
        refine pr_XRound ?_
        refine dr_XRound ?_
        refine aSq ?_
        refine aRg ?_
        intro _
        refine ⟨_, lf_mapnewT 1000000 kS vS rfl rfl (Nat.le_of_ble_eq_true rfl) rfl, ?_⟩
        intro _
        refine dr_XRound ?_
        refine aSq ?_
        refine aRg ?_
        intro _
        refine ⟨_, lf_func rfl (Nat.le_of_ble_eq_true rfl) rfl rfl, ?_⟩
        intro _
        refine dr_XRound ?_
        refine aSq ?_
        refine aRg ?_
        intro _
        obtain ⟨c30, u8, h⟩ := ob1_ok h
        refine clg_XRound [(200, 29), (201, 27), (202, 9), (203, 10), (204, 7), (205, 14)] [] [] [(29, ⟨1, some ⟨107, 7, true, [[.pim [.sl 2 (c30.set.map cGAtom), .mpi (mE kF vR (formsM c30.set))] 0, .sl 2 (c30.body.map cGAtom), .sl 2 (c30.unequal.map cA2_cS), .c (.int .i64 c30.left), .mp 27 1, .clo (.func 64) [] [.ptr 9 1 0 0, .ptr 10 1 0 0, .ptr 7 0 0 0], .c (.bool c30.full)]]⟩⟩), (27, ⟨1, some (mB kS vS c30.bind)⟩), (9, ⟨1, some ⟨28, 4, true, [[.c (.string c30.rule.Head.Name), .sl 1 (c30.rule.Head.Args.map cS), .sl 2 (c30.rule.Body.map cGAtom), .sl 2 (c30.rule.Unequal.map cA2_cS)]]⟩⟩), (10, ⟨1, some ⟨103, 1, true, [[.ptr 29 1 0 0]]⟩⟩), (7, ⟨0, some ⟨102, 1, true, [[.mp 14 0]]⟩⟩), (14, ⟨0, some (mBt 1000001 kS vA c30.heads)⟩)] (.tup []) rfl rfl (A_stratagem_datalog_matcher_from g ({ set := a0, body := y29.Body, unequal := y29.Unequal, left := x3.2.1, bind := [], full := false, rule := y29, heads := x3.2.2.2 : GMat }) 0 u8) ?_
        intro _
        refine dr_XRound ?_
        refine aSq ?_
        refine aSq ?_
        refine aRg ?_
        intro _
        refine dr_XRound ?_
        refine aCd ?_
        intro _
        refine spl h (fun c9 h => ?_) (fun c9 h => ?_)
        · refine aSq ?_
          refine aRg ?_
          intro _
          refine dr_XRound ?_
          refine aRt ?_
          have j10 := Option.some.inj h
          subst j10
          replace h := (osum_r hK2)
          intro _
          obtain ⟨rfl, rfl⟩ := inj2 h
          repeat (first | exact True.intro | refine ci_XRound ?_)
        · refine aSk ?_
          refine aRg ?_
          intro _
          refine dr_XRound ?_
          refine aRg ?_
          intro _
          refine dr_XRound ?_
          refine ⟨(k28, c30.left, (IntKind.i64.wrap (x3.2.2.1 + 1)), c30.heads), h, ltS m4, ?_⟩
          repeat (first | exact True.intro | refine ci_XRound ?_)
      · refine aEx ?_
        refine ⟨x3.2.2.2, (Option.some.inj h).symm, ?_⟩
        repeat (first | exact True.intro | refine ci_XRound ?_)
  · rintro v14 ho
    have ho := ho.symm
    subst ho
    intro _
    replace h := (osum_l hK2)
    refine aSq ?_
    refine aRg ?_
    intro _
    obtain ⟨z31, u11, h⟩ := ob1_ok h
    refine clg_XRound [(0, 50)] [] [] [(50, ⟨2, some ⟨24, 2, false, z31.map cGAtom⟩⟩)] (.own 50 2 0 z31.length) rfl rfl (A_cloneN a0 u11) ?_
    intro _
    refine dr_XRound ?_
    obtain ⟨q12, h⟩ := grd_ok h
    obtain ⟨z32, u13, h⟩ := ob1_ok h
    have hlen : (z31 ++ v14.map Prod.snd).length = z31.length + v14.length := by simp
    refine awp_cut (α := List GAtom) (fun v => mkS 63 [(11, .own 50 0 0 (z31 ++ v).length)] [(50, ⟨24, 2, false, (z31 ++ v).map cGAtom⟩)]) (fun v => v.Perm (v14.map Prod.snd)) ?_ ?_
    · refine awp_range (M := v14) (ek := kS) (ev := vA) (T := 14) (ver := 0) (dI := 52) (dN := 53) (dB := 54) (y := .tmp 52) (fun x => .agg (fr_cGAtom x)) (fun L p => mkS 63 [(11, .own 50 0 0 (z31 ++ L).length), (52, .c p)] [(50, ⟨24, 2, false, (z31 ++ L).map cGAtom⟩)]) (fun L v => ⟨rfl, rfl⟩) ?_ rfl rfl rfl (Nat.le_of_ble_eq_true rfl) rfl rfl rfl (Nat.le_of_ble_eq_true rfl) ⟨by kernel_rfl, by kernel_rfl, by kernel_rfl⟩ ?_ ?_
      · intro _
        refine ⟨fun _ => ⟨by kernel_rfl, by kernel_rfl, by kernel_rfl⟩, ⟨_, _, _, _, _, rfl, rfl, rfl, rfl, rfl, rfl, Tryd.underlying102⟩, Nat.le_of_ble_eq_true rfl, Nat.le_of_ble_eq_true rfl, Nat.le_of_ble_eq_true rfl, rfl, rfl, fun v => ?_⟩
        repeat (first | exact True.intro | refine ci_XRound ?_)
      · intro L v e x r hL hv
        subst hv
        refine awp_fk ?_
        intro _
        refine aSq ?_
        refine aCd ?_
        intro _
        refine ⟨fun _ => ?_, fun hc => (by cases hc)⟩
        refine aSk ?_
        refine aBk ?_
        refine aSq ?_
        refine awp_regionO [0] ?_
        intro _
        intro _
        refine ⟨rfl, _, lf_entry rfl (Nat.le_of_ble_eq_true rfl) rfl, ?_⟩
        intro _
        refine dr_XRound ?_
        refine aRg ?_
        intro _
        refine pl_XRound ?_
        refine pl_XRound ?_
        refine And.intro (by simp only [List.length_append, List.length_map] at *; simp; omega) ?_
        refine pe_XRound ?_
        refine dr_XRound ?_
        repeat (first | exact True.intro | refine ci_XRound ?_)
      · intro L v hp
        refine awp_fk ?_
        intro _
        refine aSq ?_
        refine aCd ?_
        intro _
        refine ⟨fun hc => (by cases hc), fun _ => ?_⟩
        refine aEx ?_
        refine ⟨L, hp, ?_⟩
        repeat (first | exact True.intro | refine ci_XRound ?_)
    · rintro v hv
      intro _
      have hlv : (z31 ++ v).length ≤ 140737488355328 := by have := (List.Perm.append_left z31 hv).length_eq; omega
      have u14 := made_perm g (List.Perm.append_left z31 hv.symm) u13
      refine aSq ?_
      refine aRg ?_
      intro _
      refine clf_XRound [(50, ⟨1, none⟩)] rfl rfl (A_datalog_made g (z31 ++ v) u14) ?_
      intro _
      refine dr_XRound ?_
      refine aRt ?_
      intro _
      obtain ⟨rfl, rfl⟩ := inj2 h
      cases z32 <;> repeat (first | exact True.intro | refine ci_XRound ?_)
end Go.Proofs.YtflgpccacloadaaDoor.Am
/- Plain law: a round adds the heads of all rules under all bindings. -/
namespace Go.Proofs.YtflgpccacloadaaDoor.Am
open Go.RowKit
def rsols (S : GSet) (r : GRule) : List Bd := sols S r.Unequal r.Body []
def rheads (S : GSet) (r : GRule) : List GAtom := (rsols S r).map (fun b => hatom b r.Head)
def allH (S : GSet) (rules : List GRule) : List GAtom := rules.flatMap (rheads S)
theorem setM_len {κ ν : Type} [DecidableEq κ] : ∀ (M : List (κ × ν)) (k : κ) (v : ν), (setM M k v).length ≤ M.length + 1
  | [], _, _ => by simp [setM]
  | (b, u) :: r, k, v => by
    rw [setM]
    split
    · simp
    · have := setM_len r k v
      simp only [List.length_cons]
      omega
theorem headsOf_len : ∀ (l : List GAtom) (M : List (ByteArray × GAtom)), (headsOf M l).length ≤ M.length + l.length
  | [], M => Nat.le_refl _
  | x :: r, M => by
    have h1 := headsOf_len r (setM M (atomKey x) x)
    have h2 := setM_len M (atomKey x) x
    show (headsOf (setM M (atomKey x) x) r).length ≤ _
    simp only [List.length_cons]
    omega
theorem headsOf_app (M : List (ByteArray × GAtom)) (l l' : List GAtom) : headsOf M (l ++ l') = headsOf (headsOf M l) l' := List.foldl_append
theorem eff_free : ∀ (l : List Bd) (m : GMat), m.full = false → (l.length : Int) ≤ m.left → eff m l = { m with left := m.left - l.length, heads := headsOf m.heads (l.map (fun b => hatom b m.rule.Head)) }
  | [], m, _, _ => by
    show m = _
    obtain ⟨a, b, c, d, e, f, g, h⟩ := m
    simp [headsOf]
  | b :: r, m, hf, hl => by
    simp only [List.length_cons] at hl
    have h1 : one m b = { m with left := m.left - 1, heads := setM m.heads (atomKey (hatom b m.rule.Head)) (hatom b m.rule.Head) } := by
      unfold one
      rw [if_neg (by rw [hf]; decide), if_neg (by omega)]
    show eff (one m b) r = _
    rw [h1, eff_free r { m with left := m.left - 1, heads := setM m.heads (atomKey (hatom b m.rule.Head)) (hatom b m.rule.Head) } hf (by show (r.length : Int) ≤ m.left - 1; omega)]
    have h2 : m.left - 1 - (r.length : Int) = m.left - ((b :: r).length : Int) := by simp only [List.length_cons]; omega
    show GMat.mk m.set m.body m.unequal (m.left - 1 - (r.length : Int)) m.bind m.full m.rule _ = _
    rw [h2]
    rfl
/-- what a rule asks of the machine -/
structure RuleOk (S : GSet) (r : GRule) : Prop where
  un : r.Unequal.length ≤ 4611686018427387904
  body : r.Body.length ≤ 4611686018427387904
  args : ∀ a ∈ r.Body, a.Args.length * 16 ≤ 140737488355328
  key : ∀ a ∈ rheads S r, KeyOk a
theorem from_free (g : Nat) (S : GSet) (r : GRule) (left : Int) (hd : List (ByteArray × GAtom)) (hok : RuleOk S r) (hS : S.length ≤ 4611686018427387904) (hg : r.Body.length < g) (h0 : ((rheads S r).length : Int) ≤ left) (h1 : left ≤ 4611686018427387904) :
    M_stratagem_datalog_matcher_from g ({ set := S, body := r.Body, unequal := r.Unequal, left := left, bind := [], full := false, rule := r, heads := hd } : GMat) 0 =
      some { set := S, body := r.Body, unequal := r.Unequal, left := left - (rheads S r).length, bind := [], full := false, rule := r, heads := headsOf hd (rheads S r) } := by
  have hl : (rheads S r).length = (rsols S r).length := List.length_map _
  have := from_eq r.Body g 0 ({ set := S, body := r.Body, unequal := r.Unequal, left := left, bind := [], full := false, rule := r, heads := hd } : GMat)
    ⟨hok.un, hS, by show 0 ≤ left; omega, h1, List.nodup_nil, hok.body, hok.args⟩ rfl (Nat.zero_le _) hg (fun b hb => hok.key _ (List.mem_map.2 ⟨b, hb, rfl⟩))
  rw [show ((0 : Nat) : Int) = 0 from rfl] at this
  rw [this, eff_free _ _ rfl (by show ((rsols S r).length : Int) ≤ left; omega)]
  rw [hl]
  rfl
theorem round_loop (g : Nat) (S : GSet) (rules : List GRule) (hok : ∀ r ∈ rules, RuleOk S r) (hS : S.length ≤ 4611686018427387904) (hg : ∀ r ∈ rules, r.Body.length < g) (hn : rules.length ≤ 4611686018427387904) :
    ∀ (k i : Nat) (left : Int) (hd : List (ByteArray × GAtom)), i + k = rules.length + 1 → i ≤ rules.length → ((allH S (rules.drop i)).length : Int) ≤ left → left ≤ 4611686018427387904 →
      M_datalog_round_L1 S rules g k left (i : Int) hd = some (.inl (headsOf hd (allH S (rules.drop i)))) := by
  intro k
  induction k with
  | zero => intro i left hd h1 h2; omega
  | succ k ih =>
    intro i left hd h1 h2 h3 h4
    rw [M_datalog_round_L1]
    by_cases h : i < rules.length
    · have hy := List.getElem?_eq_getElem h
      have hm := List.getElem_mem h
      rw [show decide ((i : Int) < ((rules.map cGRule).length : Int)) = true by simp; omega]
      show ix rules (i : Int) _ = _
      rw [ix_at hy]
      rw [dropC hy, allH, List.flatMap_cons, List.length_append] at h3
      rw [from_free g S rules[i] left hd (hok _ hm) hS (hg _ hm) (by omega) h4, ob1_some]
      show M_datalog_round_L1 S rules g k _ _ _ = _
      rw [wrap_eq (by omega) (by omega)]
      have := ih (i + 1) (left - (rheads S rules[i]).length) (headsOf hd (rheads S rules[i])) (by omega) (by omega) (by unfold allH; omega) (by omega)
      rw [show ((i + 1 : Nat) : Int) = (i : Int) + 1 from rfl] at this
      rw [this, dropC hy, allH, allH, List.flatMap_cons, headsOf_app]
    · rw [show decide ((i : Int) < ((rules.map cGRule).length : Int)) = false by simp; omega]
      rw [List.drop_of_length_le (by omega)]
      rfl
theorem setA_eq {a b : List GAtom} (h : ∀ z, z ∈ a ↔ z ∈ b) : setA a = setA b :=
  strA_unique (setA_spec a).1 (setA_spec b).1 (fun z => by rw [(setA_spec a).2.1, (setA_spec b).2.1]; exact h z)
theorem round_eq (g : Nat) (S : GSet) (rules : List GRule) (hok : ∀ r ∈ rules, RuleOk S r) (hS : S.length ≤ 1000000) (hSa : ∀ a ∈ S, a.Args.length * 16 ≤ 140737488355328) (hg : ∀ r ∈ rules, r.Body.length < g) (hn : rules.length ≤ 4611686018427387904)
    (hc : (allH S rules).length ≤ 1048576) (hgg : 3000000 < g) : M_datalog_round g S rules = some (some (setA (S ++ allH S rules)), Er.nil) := by
  unfold M_datalog_round
  rw [show (((rules.map cGRule).length : Int)).toNat + 1 = rules.length + 1 by simp]
  have h1 := round_loop g S rules hok (by omega) hg hn (rules.length + 1) 0 1048576 [] (by omega) (Nat.zero_le _) (by rw [List.drop_zero]; omega) (by omega)
  rw [List.drop_zero, show ((0 : Nat) : Int) = 0 from rfl] at h1
  rw [h1, ob1_some]
  show ob1 (M_cloneN S) _ = _
  rw [show M_cloneN S = some S from grd_mk (by omega) rfl, ob1_some]
  obtain ⟨_, g2, g3⟩ := heads_spec (allH S rules) [] List.nodup_nil (fun p hp => by cases hp)
  have hlen := headsOf_len (allH S rules) []
  simp only [List.length_nil, Nat.zero_add] at hlen
  have hmem : ∀ z, z ∈ S ++ (headsOf [] (allH S rules)).map Prod.snd ↔ z ∈ S ++ allH S rules := fun z => by
    rw [List.mem_append, List.mem_append, g3]
    simp
  have hl2 : (S ++ (headsOf [] (allH S rules)).map Prod.snd).length ≤ S.length + 1048576 := by simp; omega
  have hmade : MadeOk (S ++ (headsOf [] (allH S rules)).map Prod.snd) := by
    refine ⟨fun a ha => ?_, by omega⟩
    rcases List.mem_append.1 ((hmem a).1 ha) with q | q
    · exact hSa a q
    · obtain ⟨r, hr, hq⟩ := List.mem_flatMap.1 q
      exact ((hok r hr).key a hq).2
  refine grd_mk (by omega) ?_
  rw [made_eq g _ hmade (by omega), ob1_some, setA_eq hmem]
end Go.Proofs.YtflgpccacloadaaDoor.Am
/- slices.Clone at strings, what it returns is the caller's own row. -/
namespace Go.Proofs.YtflgpccacloadaaDoor.Am
open Go.RowKit
theorem fr0_fr {x : AV} (h : Fr x) : fr0 x := by cases x <;> first | trivial | exact h
def M_cloneSo (l : List ByteArray) : Option (List ByteArray) := grd (l.length * 16 ≤ 140737488355328) (some l)
theorem A_cloneSo (l : List ByteArray) {r : List ByteArray} (h : M_cloneSo l = some r) : ACallG cx 34 [.sl 1 (l.map cS)] [] [] (.own 0 0 0 r.length) [(0, ⟨9, 1, false, r.map cS⟩)] := by
  obtain ⟨h0, h⟩ := grd_ok h
  obtain rfl := Option.some.inj h
  refine ⟨enter_g Tryd.func34 rfl (by decide), fun w m cargs hg hM hsz hargs => ?_⟩
  obtain ⟨v, rfl⟩ := cargs1 hsz
  obtain ⟨A, cap, b, off, f, rfl, hA, hcap, _, _, hc, hv, _⟩ := rv_sl (hargs 0 _ v rfl rfl)
  have done : ∀ (w' : World) (v' : Value), w'.ownsRow w.heap.size 9 1 v' l.length (l.map Value.string) → Below w.heap.size w w' → ∃ v'' m', Ending.returned v' = .returned v'' ∧ GR cx w m [] [] (.own 0 0 0 l.length) [(0, ⟨9, 1, false, l.map cS⟩)] v'' m' w' := fun w' v' ho hb => by
    have hge : ∀ b, v'.ownBlock = some b → w.heap.size ≤ b := fun b hb => by
      rcases ho.2 with ⟨rfl, _⟩ | ⟨g, cap, cur, rfl, hbase, _⟩
      · cases hb
      · simp [Value.ownBlock] at hb; omega
    refine ⟨_, _, rfl, gr_row (i0 := 0) (v := .slice none 0 0) (row := none) hM hg (.inl rfl) (own_mono ho (Nat.zero_le _)) ⟨hb.os, hb.tape, hb.output, hb.size, fun b hb' _ => hb.block b hb'⟩ (.inl rfl) (.inr hge) (List.length_map _) (fun k e he => ?_)⟩
    obtain ⟨x, hx, rfl⟩ := get_map he
    refine ⟨rfl, fun j y hy => ?_⟩
    match j, hy with
    | 0, hy =>
      simp [cS] at hy
      subst hy
      exact ⟨.c _, .string x, by simp [hx], rfl, .c _⟩
    | j + 1, hy => simp [cS] at hy
  have hlen : (l.map cS).length = l.length := List.length_map _
  by_cases hl : l = []
  · subst hl
    cases A with
    | none =>
      refine (Tryd.slices_Clone_string_nil _ cap w).mono ?_
      rintro e w' ⟨rfl, rfl⟩
      exact done _ _ ⟨rfl, .inl ⟨rfl, rfl⟩⟩ (Below.refl _ _)
    | some a =>
      refine (Tryd.slices_Clone_string_zero a cap w).mono ?_
      rintro e w' ⟨v', rfl, ho, _, hb⟩
      exact done _ _ ho hb
  · obtain ⟨rfl, _, _⟩ := hA (by simpa using hl)
    rw [hlen]
    refine (Tryd.slices_Clone_string b off l.length cap l w (Nat.le_refl _) h0 (fun j hj => ?_)).mono ?_
    · have hx := List.getElem?_eq_getElem hj
      have := (hc j 0 _ _ (map_at' hx) rfl).1
      rw [rv_c (hv j 0 _ _ (map_at' hx) rfl)] at this
      have e : l.getD j ByteArray.empty = l[j] := by simp [List.getD_eq_getElem?_getD, hx]
      rw [e]
      simpa using this
    · rintro e w' ⟨v', rfl, ho, _, hb⟩
      rw [List.take_of_length_le (Nat.le_refl _)] at ho
      exact done _ _ ho hb
end Go.Proofs.YtflgpccacloadaaDoor.Am
