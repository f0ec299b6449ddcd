/- Texts of the proof, part 3 of 4. -/
import Derived.Test.YtljekaadbabhkaaDoorB2
import Derived.Lib.SplitLaws
import Derived.Lib.IndexMore
import Derived.Lib.TrimUEq
import Derived.Lib.MapLaws
import Derived.Lib.SpaceUEq
import Derived.Lib.FieldsP
import Derived.Test.YtljekaadbabhkaaDoorB1
/- Models printed by my decompiler, and the proofs that the code computes them. -/
namespace Go.Proofs.YtljekaadbabhkaaDoor.Am
open Go.RowKit
structure GStep where
  At : Int
  Name : ByteArray
  Args : List ByteArray
  deriving DecidableEq
def cGStep (x : GStep) : List AV := [.c (.int .i64 x.At), .c (.string x.Name), .sl 1 (x.Args.map cS)]
theorem fr_cGStep (x : GStep) : ∀ y ∈ cGStep x, Fr y := FrC_cons (.c _) (FrC_cons (.c _) (FrC_cons (.sl (frl_cS _)) (FrC_nil)))
theorem frl_cGStep (l : List GStep) : FrL (l.map cGStep) := FrL_map (fun x _ => fr_cGStep x)
instance {l : List GStep} : FrI (l.map cGStep) := ⟨frl_cGStep l⟩
theorem zb_0 {P : Prop} (h : P := by repeat (first | exact BWL.nil | exact bwll_nil | exact bw_c | exact BW.sl | exact BW.nil | exact bwll_same rfl FrI.h | refine BWL.cons ?_ ?_ | refine bwll_cons ?_ ?_ | (refine bw_own3 rfl rfl rfl FrI.h ?_ ?_ ?_) | exact BW.fr FrV.h | exact BW.fr (by assumption) | refine bw_agg ?_ | refine bw_clo ?_ | refine bw_ptr rfl rfl rfl ?_ | (refine bw_own rfl rfl rfl ?_ FrI.h ?_ ?_) | assumption | omega | rfl | (rw [List.length_map, ← List.length_append]; assumption) | (refine bwll_same ?_ FrI.h; (simp [cGStep, cS, c_u8, cF] <;> fail)) | (rw [List.map_set]; refine bwll_set (by first | rfl | omega | simp) ?_ ?_) | refine bwll_set (by first | rfl | omega | simp) ?_ ?_ | (rw [List.map_replicate]; refine bwll_rep ?_) | refine bwll_rep ?_ | (rw [List.map_append]; refine bwll_append ?_ ?_) | refine bwll_append ?_ ?_ | (simp [cGStep, cS, c_u8, cF, take_len_map] <;> fail) | (rw [List.drop_zero, List.take_of_length_le] <;> first | rfl | (simp [cGStep, cS, c_u8, cF] <;> fail)) | (simp; omega) | (simp only [List.length_map, List.drop_zero, List.length_cons, List.length_nil, Nat.zero_add, Nat.add_zero] at *; omega))) : P := h
theorem zg_0 {P : Prop} (h : P := by repeat (first | exact True.intro | exact gb_nil rfl rfl | refine gb_some ⟨rfl, rfl, rfl⟩ ?_ | refine And.intro ?_ ?_ | refine gw_ren rfl rfl rfl rfl rfl ?_ | refine gw_pren rfl rfl rfl rfl rfl | exact gw_thaw rfl rfl rfl | refine gw_tup ?_ | exact GWL.nil | exact gwll_nil | exact gw_c | exact GW.sl | exact GW.nil | exact gwll_same rfl FrI.h | refine GWL.cons ?_ ?_ | refine gwll_cons ?_ ?_ | (refine gw_own3 rfl rfl rfl FrI.h ?_ ?_ ?_) | exact GW.fr FrV.h | exact GW.fr (by assumption) | refine gw_agg ?_ | refine gw_clo ?_ | refine gw_ptr rfl rfl rfl ?_ | (refine gw_own rfl rfl rfl ?_ FrI.h ?_ ?_) | assumption | omega | rfl | (rw [List.length_map, ← List.length_append]; assumption) | (refine gwll_same ?_ FrI.h; (simp [cGStep, cS, c_u8, cF] <;> fail)) | (rw [List.map_set]; refine gwll_set (by first | rfl | omega | simp) ?_ ?_) | refine gwll_set (by first | rfl | omega | simp) ?_ ?_ | (rw [List.map_replicate]; refine gwll_rep ?_) | refine gwll_rep ?_ | (rw [List.map_append]; refine gwll_append ?_ ?_) | refine gwll_append ?_ ?_ | (simp [cGStep, cS, c_u8, cF, take_len_map] <;> fail) | (rw [List.drop_zero, List.take_of_length_le] <;> first | rfl | (simp [cGStep, cS, c_u8, cF] <;> fail)) | (simp; omega) | (simp only [List.length_map, List.drop_zero, List.length_cons, List.length_nil, Nat.zero_add, Nat.add_zero] at *; omega))) : P := h
theorem ci {p K : Prop} (k : K) (h : p := by first | rfl | exact ⟨rfl, rfl⟩ | exact BW.fr FrV.h | (refine BW.fr ?_; assumption) | (refine ⟨rfl, ?_⟩; (simp [cGStep, cS, c_u8, cF, take_len_map]; done)) | (refine RowK.same ?_ FrI.h; first | rfl | (simp [cGStep, cS, c_u8, cF, take_len_map]; done)) | (refine row_part1 ?_; (exact zb_0); done) | ((exact zb_0); done) | (simp [cGStep, cS, c_u8, cF, take_len_map]; done)) : p ∧ K := ⟨h, k⟩
theorem ca_0 {P : Prop} (h : P := by repeat (first | exact True.intro | refine ci ?_)) : P := h
theorem pr {p K : Prop} (k : K) (h : p := by first | assumption | exact Int.natCast_nonneg _ | exact Nat.le_refl _ | exact Nat.zero_le _ | omega | (simp; done) | (simp; omega)) : p ∧ K := ⟨h, k⟩
theorem pl {p K : Prop} (k : K) (h : p := by first | rfl | exact List.length_map _ | (simp; done) | (simp; omega)) : p ∧ K := ⟨h, k⟩
theorem pe {p K : Prop} (k : K) (h : p := by first | omega | (simp; omega) | (simp only [List.length_map, List.length_cons, List.length_nil, List.length_append]; omega) | (simp only [List.length_map, List.drop_zero, List.length_cons, List.length_nil, Nat.zero_add, Nat.add_zero] at *; omega)) : p ∧ K := ⟨h, k⟩
theorem dr {b : Bool} {p K : Prop} (k : K) (h : b = true → p := by intro h; first | (cases h; done) | exact ⟨by kernel_rfl, by kernel_rfl⟩) : (b = true → p) ∧ K := ⟨h, k⟩
theorem cl {C : Cx} {n : Nat} {o : Oper} {τ : Nat → AV} {η : Nat → Ent} {f : FuncId} {os : Array Operand} {ats : Array TypeId} {r : AV} {args : List AV} {K : Foot → Prop} (ho : o.op = .call ⟨.value (.func f), os, ats⟩) (hc : ACall C f args r) (k : K ⟨r, [], []⟩)
    (hd : InB n o.dst := by exact Nat.le_of_ble_eq_true rfl) (hargs : os.toList.map (evA τ) = args := by first | rfl | (simp [cGStep, cS, c_u8, cF]; done) | (repeat (first | exact rfl | refine cons_eq ?_ ?_ | exact sl_dt rfl))) (hfr : frs args := by repeat (first | exact trivial | exact fr1_eA _ | exact fr0_eA _ | exact fr1_fr (by assumption) | exact FrV.h | refine And.intro ?_ ?_)) (hr : fr1 r := by repeat (first | exact trivial | exact fr1_eA _ | exact fr0_eA _ | exact fr1_fr (by assumption) | exact FrV.h | refine And.intro ?_ ?_)) : ∃ f : Foot, LF C n o τ η f ∧ K f := ⟨_, lf_call ho hd hargs hc hfr hr, k⟩
theorem clb {C : Cx} {n : Nat} {o : Oper} {τ : Nat → AV} {η : Nat → Ent} {f : FuncId} {os : Array Operand} {ats : Array TypeId} {r : AV} {xs ys : List AV} {K : Foot → Prop} (bs : List Nat) (ho : o.op = .call ⟨.value (.func f), os, ats⟩) (hargs : os.toList.map (evA τ) = xs) (hc : ACall C f ys r) (k : K ⟨r, [], bs⟩)
    (hd : InB n o.dst := by exact Nat.le_of_ble_eq_true rfl) (hb : BWL η (dropB η bs) xs ys := by exact zb_0) (hr : scal r := by repeat (first | exact trivial | exact scal0_eA _ | exact scal_eA _ | refine And.intro ?_ ?_)) : ∃ f : Foot, LF C n o τ η f ∧ K f := ⟨_, lf_callB bs ho hd hargs hb hc hr, k⟩
theorem clf {C : Cx} {n : Nat} {o : Oper} {τ : Nat → AV} {η : Nat → Ent} {f : FuncId} {os : Array Operand} {ats : Array TypeId} {r : AV} {xs ys : List AV} {K : Foot → Prop} (us : List (Nat × Ent)) (ho : o.op = .call ⟨.value (.func f), os, ats⟩) (hargs : os.toList.map (evA τ) = xs) (hc : ACall C f ys r) (k : K ⟨r, us, []⟩)
    (hus : allUs η us := by repeat (first | exact trivial | refine And.intro rfl ?_)) (hul : ltUs n us := by repeat (first | exact trivial | refine And.intro (Nat.le_of_ble_eq_true rfl) ?_)) (hd : InB n o.dst := by exact Nat.le_of_ble_eq_true rfl) (hb : BWL η (dropB η (us.map (·.1))) xs ys := by exact zb_0) (hr : fr1 r := by repeat (first | exact trivial | exact fr1_eA _ | exact fr0_eA _ | exact fr1_fr (by assumption) | exact FrV.h | refine And.intro ?_ ?_)) : ∃ f : Foot, LF C n o τ η f ∧ K f := ⟨_, lf_callF us (allUs_at hus) (ltUs_at hul) ho hd hargs hb hc hr, k⟩
theorem clg {C : Cx} {n : Nat} {o : Oper} {τ : Nat → AV} {η : Nat → Ent} {f : FuncId} {os : Array Operand} {ats : Array TypeId} {r : AV} {xs ys : List AV} {bs bs' : List (Nat × Blk)} {ks : List Nat} {K : Foot → Prop} (ρ : List (Nat × Nat)) (fz : List Nat) (go nb : List (Nat × Ent)) (r' : AV) (ho : o.op = .call ⟨.value (.func f), os, ats⟩) (hargs : os.toList.map (evA τ) = xs)
    (hc : ACallG C f ys bs ks r bs') (k : K ⟨r', go ++ nb, []⟩) (hd : InB n o.dst := by exact Nat.le_of_ble_eq_true rfl) (hok : okC ρ fz bs ks bs' (idsE go) = true := by rfl) (hgo : allUs η go := by repeat (first | exact trivial | refine And.intro rfl ?_)) (hgl : ltUs n go := by repeat (first | exact trivial | refine And.intro (Nat.le_of_ble_eq_true rfl) ?_))
    (hw : GWL η (fE bs) (lk ρ) (fun i => inB fz i = true) (fun i => inB (keys bs) i = true) xs ys := by exact zg_0) (hb : GBL η (fE bs) (lk ρ) (fun i => inB fz i = true) (fun i => inB (keys bs) i = true) bs := by exact zg_0)
    (hr : GW (fE bs') (updAll η (go ++ nb)) (lk (backN ρ bs')) (fun _ => False) (fun i => inB (idsE nb) i = true) r r' := by exact zg_0)
    (hnb : nbOk n η (updAll η (go ++ nb)) ρ ks (fE bs') (lk (backN ρ bs')) (fun i => inB (idsE nb) i = true) bs' nb := by repeat (first | exact True.intro | rfl | exact Nat.le_of_ble_eq_true rfl | exact gb_nil rfl rfl | refine gb_some ⟨rfl, rfl, rfl⟩ ?_ | refine And.intro ?_ ?_ | refine gw_ren rfl rfl rfl rfl rfl ?_ | refine gw_pren rfl rfl rfl rfl rfl | exact gw_thaw rfl rfl rfl | refine gw_tup ?_ | exact GWL.nil | exact gwll_nil | exact gw_c | exact GW.sl | exact GW.nil | exact gwll_same rfl FrI.h | refine GWL.cons ?_ ?_ | refine gwll_cons ?_ ?_ | (refine gw_own3 rfl rfl rfl FrI.h ?_ ?_ ?_) | exact GW.fr FrV.h | exact GW.fr (by assumption) | refine gw_agg ?_ | refine gw_clo ?_ | refine gw_ptr rfl rfl rfl ?_ | (refine gw_own rfl rfl rfl ?_ FrI.h ?_ ?_) | assumption | omega | rfl | (rw [List.length_map, ← List.length_append]; assumption) | (refine gwll_same ?_ FrI.h; (simp [cGStep, cS, c_u8, cF] <;> fail)) | (rw [List.map_set]; refine gwll_set (by first | rfl | omega | simp) ?_ ?_) | refine gwll_set (by first | rfl | omega | simp) ?_ ?_ | (rw [List.map_replicate]; refine gwll_rep ?_) | refine gwll_rep ?_ | (rw [List.map_append]; refine gwll_append ?_ ?_) | refine gwll_append ?_ ?_ | (simp [cGStep, cS, c_u8, cF, take_len_map] <;> fail) | (rw [List.drop_zero, List.take_of_length_le] <;> first | rfl | (simp [cGStep, cS, c_u8, cF] <;> fail)) | (simp; omega) | (simp only [List.length_map, List.drop_zero, List.length_cons, List.length_nil, Nat.zero_add, Nat.add_zero] at *; omega))) : ∃ f : Foot, LF C n o τ η f ∧ K f := ⟨_, lf_callG ρ fz go nb ho hd hargs hc hok hgo hgl hw hb hr hnb, k⟩
def M_planfile_clock_L1 (z4 : ByteArray) : Nat → Int → Int → Option (Int ⊕ (Int × ByteArray × Bool))
  | 0, _, _ => none
  | k28 + 1, v26, v27 =>
    sel (decide (v27 < (((bys z4).map c_u8).length : Int)))
     (ix (bys z4) v27 (fun y29 =>
       sel (decide (y29 < 48))
        (some (.inr (0, (⟨#[]⟩ : ByteArray), false)))
        (sel (decide (y29 > 57))
          (some (.inr (0, (⟨#[]⟩ : ByteArray), false)))
          (M_planfile_clock_L1 z4 k28 (IntKind.i64.wrap ((IntKind.i64.wrap (10 * v26)) + (IntKind.i64.wrap (IntKind.u8.wrap (y29 - 48))))) (IntKind.i64.wrap (v27 + 1))))))
     (some (.inl v26))
def M_planfile_clock (a0 : ByteArray) : Option (Int × ByteArray × Bool) :=
  ob3 (M_strings_Cut a0 (⟨#[58]⟩ : ByteArray)) (fun z1 z2 z3 =>
   ob1 (M_strings_Trim z1 (⟨#[32, 9, 13]⟩ : ByteArray)) (fun z4 =>
    ob1 (sel (!z3)
      (some (.inr (0, (⟨#[]⟩ : ByteArray), false)))
      (sel (decide ((z4.size : Int) < 1))
        (some (.inr (0, (⟨#[]⟩ : ByteArray), false)))
        (sel (decide ((z4.size : Int) > 9))
          (some (.inr (0, (⟨#[]⟩ : ByteArray), false)))
          (some (.inl ())))) : Option (Unit ⊕ (Int × ByteArray × Bool)))
     (osum
     (fun _ => ob1 (grd (z4.size ≤ 140737488355328) (M_planfile_clock_L1 z4 (((((bys z4).map c_u8).length : Int)).toNat + 1) 0 0) : Option (Int ⊕ (Int × ByteArray × Bool)))
        (osum
        (fun v17 => ob1 (M_strings_Trim z2 (⟨#[32, 9, 13]⟩ : ByteArray)) (fun z30 =>
           some (v17, z30, true)))
        (fun (r18, r19, r20) => some (r18, r19, r20))))
     (fun (r5, r6, r7) => some (r5, r6, r7)))))
set_option maxHeartbeats 16000000 in
set_option maxRecDepth 100000 in
theorem A_planfile_clock (a0 : ByteArray) {r1 : Int} {r2 : ByteArray} {r3 : Bool} (h : M_planfile_clock a0 = some (r1, r2, r3)) : ACall cx 51 [.c (.string a0)] (.tup [.c (.int .i64 r1), .c (.string r2), .c (.bool r3)]) := by
  refine aOf Tryd.func51 rfl (by decide) rfl (Nat.le_of_ble_eq_true rfl) ?_; intro _; unfold M_planfile_clock at h; refine aSq ?_; refine aRg ?_; intro _; refine dr ?_; refine aSq ?_; refine aRg ?_; intro _; obtain ⟨z1, z2, z3, u1, h⟩ := ob3_ok h; refine cl rfl (A_strings_Cut a0 (⟨#[58]⟩ : ByteArray) u1) ?_; intro _; refine dr ?_; refine aSq ?_; refine aRg ?_; intro _; obtain ⟨z4, u2, h⟩ := ob1_ok h; refine cl rfl (A_strings_Trim z1 (⟨#[32, 9, 13]⟩ : ByteArray) u2) ?_; intro _; refine dr ?_; obtain ⟨o3, h, hK4⟩ := ob1_ok h; refine awp_cut (α := Unit) (fun _ => mkS 54 [(5, .c (.string z4)), (6, .c (.string z2))] []) (fun v => o3 = (.inl v)) ?_ ?_
  · refine aSq ?_; refine aRg ?_; intro _; refine spf h (fun c5 h => ?_) (fun c5 h => ?_)
    · intro _; refine spf h (fun c6 h => ?_) (fun c6 h => ?_)
      · intro _; refine dr ?_; refine aCd ?_; intro _; refine spl h (fun c7 h => ?_) (fun c7 h => ?_)
        · refine aSq ?_; refine aRg ?_; intro _; refine dr ?_; refine aRt ?_; have j8 := Option.some.inj h; subst j8; replace h := (osum_r hK4); intro _; obtain ⟨rfl, rfl, rfl⟩ := inj3 h; exact ca_0
        · refine aSk ?_; refine ⟨(), (Option.some.inj h).symm, ?_⟩; exact ca_0
      · intro _; refine dr ?_; refine aCd ?_; intro _; refine litT ?_; refine aSq ?_; refine aRg ?_; intro _; refine dr ?_; refine aRt ?_; have j9 := Option.some.inj h; subst j9; replace h := (osum_r hK4); intro _; obtain ⟨rfl, rfl, rfl⟩ := inj3 h; exact ca_0
    · intro _; refine dr ?_; refine aCd ?_; intro _; refine litT ?_; refine aSq ?_; refine aRg ?_; intro _; refine dr ?_; refine aRt ?_; have j10 := Option.some.inj h; subst j10; replace h := (osum_r hK4); intro _; obtain ⟨rfl, rfl, rfl⟩ := inj3 h; exact ca_0
  · rintro _ ho; have ho := ho.symm; subst ho; intro _; replace h := (osum_l hK4); refine aSq ?_; refine aRg ?_; intro _; refine dr ?_; obtain ⟨o11, h, hK12⟩ := ob1_ok h; refine awp_cut (α := Int) (fun v17 => mkS 54 [(6, .c (.string z2)), (8, .c (.int .i64 v17))] []) (fun v => o11 = (.inl v)) ?_ ?_
    · refine aSq ?_; refine aRg ?_; intro _; obtain ⟨q13, h⟩ := grd_ok h; refine ⟨_, lf_bys rfl (Nat.le_of_ble_eq_true rfl) rfl (tyTab_ok 9 _ rfl) rfl (tyTab_ok 43 _ rfl) rfl Tryd.underlying5 (by first | assumption | omega), ?_⟩; intro _; refine dr ?_; refine aBk ?_; refine awp_loop (α := Nat × Int × Int) (fun x => mkS 54 [(6, .c (.string z2)), (8, .c (.int .i64 x.2.1)), (32, .sl 1 ((bys z4).map c_u8)), (33, .c (.int .i64 (((bys z4).map c_u8).length : Int))), (34, .c (.int .i64 x.2.2))] []) (fun x => M_planfile_clock_L1 z4 x.1 x.2.1 x.2.2 = some o11) (fun x => x.1) (((((bys z4).map c_u8).length : Int)).toNat + 1, 0, 0) h ?_ ?_
      · exact ca_0
      · intro x14 h; intro _; obtain ⟨k28, m15, h⟩ := succ_of (f := fun n => M_planfile_clock_L1 z4 n x14.2.1 x14.2.2) rfl h; replace h : M_planfile_clock_L1 z4 (k28 + 1) x14.2.1 x14.2.2 = some o11 := h; rw [M_planfile_clock_L1] at h; refine aSq ?_; refine aRg ?_; intro _; refine dr ?_; refine aSq ?_; refine aCd ?_; intro _; refine spl h (fun c16 h => ?_) (fun c16 h => ?_)
        · refine aSk ?_; refine aSq ?_; refine aBk ?_; refine aSq ?_; refine aRg ?_; intro _; obtain ⟨y29, w17, q18, h⟩ := ix_ok h; refine Exists.intro (c_u8 y29) (And.intro (map_at' w17) ?_); intro _; refine pr ?_; refine dr ?_; refine aSq ?_; refine aSq ?_; refine aRg ?_; intro _; refine spf h (fun c19 h => ?_) (fun c19 h => ?_)
          · intro _; refine dr ?_; refine aCd ?_; intro _; refine spl h (fun c20 h => ?_) (fun c20 h => ?_)
            · refine aSq ?_; refine aRg ?_; intro _; refine dr ?_; refine aRt ?_; have j21 := Option.some.inj h; subst j21; replace h := (osum_r hK12); intro _; obtain ⟨rfl, rfl, rfl⟩ := inj3 h; exact ca_0
            · refine aSk ?_; refine aRg ?_; intro _; refine dr ?_; refine aRg ?_; intro _; refine dr ?_; refine ⟨(k28, (IntKind.i64.wrap ((IntKind.i64.wrap (10 * x14.2.1)) + (IntKind.i64.wrap (IntKind.u8.wrap (y29 - 48))))), (IntKind.i64.wrap (x14.2.2 + 1))), h, ltS m15, ?_⟩; exact ca_0
          · intro _; refine dr ?_; refine aCd ?_; intro _; refine litT ?_; refine aSq ?_; refine aRg ?_; intro _; refine dr ?_; refine aRt ?_; have j22 := Option.some.inj h; subst j22; replace h := (osum_r hK12); intro _; obtain ⟨rfl, rfl, rfl⟩ := inj3 h; exact ca_0
        · refine aEx ?_; refine ⟨x14.2.1, (Option.some.inj h).symm, ?_⟩; exact ca_0
    · rintro v17 ho; have ho := ho.symm; subst ho; intro _; replace h := (osum_l hK12); refine aSq ?_; refine aRg ?_; intro _; obtain ⟨z30, u23, h⟩ := ob1_ok h; refine cl rfl (A_strings_Trim z2 (⟨#[32, 9, 13]⟩ : ByteArray) u23) ?_; intro _; refine dr ?_; refine aRt ?_; intro _; obtain ⟨rfl, rfl, rfl⟩ := inj3 h; exact ca_0
def M_planfile_words_L1 (a0 : ByteArray) : Nat → Int → Option (Unit ⊕ ((List ByteArray) × Bool))
  | 0, _ => none
  | k17 + 1, v16 =>
    sel (decide (v16 < (((bys (a0.extract 1 ((IntKind.i64.wrap ((a0.size : Int) - 1)).toNat))).map c_u8).length : Int)))
     (ix (bys (a0.extract 1 ((IntKind.i64.wrap ((a0.size : Int) - 1)).toNat))) v16 (fun y18 =>
       sel (y18 == 40)
        (some (.inr ([], false)))
        (sel (y18 == 41)
          (some (.inr ([], false)))
          (sel (decide (y18 < 32))
            (sel (y18 != 9)
              (some (.inr ([], false)))
              (sel (y18 == 127)
                (some (.inr ([], false)))
                (M_planfile_words_L1 a0 k17 (IntKind.i64.wrap (v16 + 1)))))
            (sel (y18 == 127)
              (some (.inr ([], false)))
              (M_planfile_words_L1 a0 k17 (IntKind.i64.wrap (v16 + 1))))))))
     (some (.inl ()))
def M_planfile_words (a0 : ByteArray) : Option ((List ByteArray) × Bool) :=
  ob1 (sel (decide ((a0.size : Int) < 2))
    (some (.inr ([], false)))
    (sel ((byt a0 0) != 40)
      (grd (0 < (a0.size : Int)) (some (.inr ([], false))))
      (grd (0 < (a0.size : Int)) (grd (0 ≤ (IntKind.i64.wrap ((a0.size : Int) - 1))) (grd ((IntKind.i64.wrap ((a0.size : Int) - 1)) < (a0.size : Int)) (sel ((byt a0 (IntKind.i64.wrap ((a0.size : Int) - 1))) != 41)
        (some (.inr ([], false)))
        (some (.inl ()))))))) : Option (Unit ⊕ ((List ByteArray) × Bool)))
   (osum
   (fun _ => grd (0 ≤ (IntKind.i64.wrap ((a0.size : Int) - 1))) (grd (1 ≤ (IntKind.i64.wrap ((a0.size : Int) - 1)).toNat) (grd ((IntKind.i64.wrap ((a0.size : Int) - 1)).toNat ≤ a0.size) (ob1 (grd ((a0.extract 1 ((IntKind.i64.wrap ((a0.size : Int) - 1)).toNat)).size ≤ 140737488355328) (M_planfile_words_L1 a0 (((((bys (a0.extract 1 ((IntKind.i64.wrap ((a0.size : Int) - 1)).toNat))).map c_u8).length : Int)).toNat + 1) 0) : Option (Unit ⊕ ((List ByteArray) × Bool)))
      (osum
      (fun _ => ob1 (M_FieldsFunc (a0.extract 1 ((IntKind.i64.wrap ((a0.size : Int) - 1)).toNat))) (fun z19 =>
         some (z19, (decide (((z19.length : Nat) : Int) > 0)))))
      (fun (r10, r11) => some (r10, r11)))))))
   (fun (r1, r2) => some (r1, r2)))
set_option maxHeartbeats 16000000 in
set_option maxRecDepth 100000 in
theorem A_planfile_words (a0 : ByteArray) {r1 : List ByteArray} {r2 : Bool} (h : M_planfile_words a0 = some (r1, r2)) : ACallG cx 52 [.c (.string a0)] [] [] (.tup [.own 0 0 0 r1.length, .c (.bool r2)]) [(0, ⟨9, 1, false, r1.map cS⟩)] := by
  refine acallg_of 61 Tryd.func52 rfl (by decide) rfl (Nat.le_of_ble_eq_true rfl) rfl rfl ?_; intro _; unfold M_planfile_words at h; refine aSq ?_; refine aRg ?_; intro _; refine dr ?_; obtain ⟨o1, h, hK2⟩ := ob1_ok h; refine awp_cut (α := Unit) (fun _ => mkG 60 61 [(0, .c (.string a0))] []) (fun v => o1 = (.inl v)) ?_ ?_
  · refine aSq ?_; refine aRg ?_; intro _; refine spf h (fun c3 h => ?_) (fun c3 h => ?_)
    · intro _; refine spf h (fun c4 h => ?_) (fun c4 h => ?_)
      · intro _; obtain ⟨q5, h⟩ := grd_ok h; obtain ⟨q6, h⟩ := grd_ok h; obtain ⟨q7, h⟩ := grd_ok h; refine pr ?_; refine pr ?_; refine pr ?_; refine pr ?_; refine dr ?_; refine aCd ?_; intro _; refine spl h (fun c8 h => ?_) (fun c8 h => ?_)
        · refine aSq ?_; refine aRg ?_; intro _; refine dr ?_; refine aRt ?_; have j9 := Option.some.inj h; subst j9; replace h := (osum_r hK2); intro _; obtain ⟨rfl, rfl⟩ := inj2 h; all_goals (refine Exists.intro [(0, 9000)] (And.intro rfl (And.intro ?_ ?_))); all_goals (exact zg_0)
        · refine aSk ?_; refine ⟨(), (Option.some.inj h).symm, ?_⟩; exact ca_0
      · intro _; obtain ⟨q10, h⟩ := grd_ok h; refine pr ?_; refine pr ?_; refine dr ?_; refine aCd ?_; intro _; refine litT ?_; refine aSq ?_; refine aRg ?_; intro _; refine dr ?_; refine aRt ?_; have j11 := Option.some.inj h; subst j11; replace h := (osum_r hK2); intro _; obtain ⟨rfl, rfl⟩ := inj2 h; all_goals (refine Exists.intro [(0, 9000)] (And.intro rfl (And.intro ?_ ?_))); all_goals (exact zg_0)
    · intro _; refine dr ?_; refine aCd ?_; intro _; refine litT ?_; refine aSq ?_; refine aRg ?_; intro _; refine dr ?_; refine aRt ?_; have j12 := Option.some.inj h; subst j12; replace h := (osum_r hK2); intro _; obtain ⟨rfl, rfl⟩ := inj2 h; all_goals (refine Exists.intro [(0, 9000)] (And.intro rfl (And.intro ?_ ?_))); all_goals (exact zg_0)
  · rintro _ ho; have ho := ho.symm; subst ho; intro _; replace h := (osum_l hK2); refine aSq ?_; refine aRg ?_; intro _; obtain ⟨q13, h⟩ := grd_ok h; obtain ⟨q14, h⟩ := grd_ok h; obtain ⟨q15, h⟩ := grd_ok h; refine pr ?_; refine pr ?_; refine pr ?_; refine pr ?_; refine dr ?_; obtain ⟨o16, h, hK17⟩ := ob1_ok h; refine awp_cut (α := Unit) (fun _ => mkG 60 61 [(0, .c (.string (a0.extract 1 ((IntKind.i64.wrap ((a0.size : Int) - 1)).toNat))))] []) (fun v => o16 = (.inl v)) ?_ ?_
    · refine aSq ?_; refine aRg ?_; intro _; obtain ⟨q18, h⟩ := grd_ok h; refine ⟨_, lf_bys rfl (Nat.le_of_ble_eq_true rfl) rfl (tyTab_ok 9 _ rfl) rfl (tyTab_ok 43 _ rfl) rfl Tryd.underlying5 (by first | assumption | omega), ?_⟩; intro _; refine dr ?_; refine aBk ?_; refine awp_loop (α := Nat × Int) (fun x => mkG 60 61 [(0, .c (.string (a0.extract 1 ((IntKind.i64.wrap ((a0.size : Int) - 1)).toNat)))), (29, .sl 1 ((bys (a0.extract 1 ((IntKind.i64.wrap ((a0.size : Int) - 1)).toNat))).map c_u8)), (30, .c (.int .i64 (((bys (a0.extract 1 ((IntKind.i64.wrap ((a0.size : Int) - 1)).toNat))).map c_u8).length : Int))), (31, .c (.int .i64 x.2))] []) (fun x => M_planfile_words_L1 a0 x.1 x.2 = some o16) (fun x => x.1) (((((bys (a0.extract 1 ((IntKind.i64.wrap ((a0.size : Int) - 1)).toNat))).map c_u8).length : Int)).toNat + 1, 0) h ?_ ?_
      · exact ca_0
      · intro x19 h; intro _; obtain ⟨k17, m20, h⟩ := succ_of (f := fun n => M_planfile_words_L1 a0 n x19.2) rfl h; replace h : M_planfile_words_L1 a0 (k17 + 1) x19.2 = some o16 := h; rw [M_planfile_words_L1] at h; refine aSq ?_; refine aRg ?_; intro _; refine dr ?_; refine aSq ?_; refine aCd ?_; intro _; refine spl h (fun c21 h => ?_) (fun c21 h => ?_)
        · refine aSk ?_; refine aSq ?_; refine aBk ?_; refine aSq ?_; refine aRg ?_; intro _; obtain ⟨y18, w22, q23, h⟩ := ix_ok h; refine Exists.intro (c_u8 y18) (And.intro (map_at' w22) ?_); intro _; refine pr ?_; refine dr ?_; refine aSq ?_; refine aRg ?_; intro _; refine spf h (fun c24 h => ?_) (fun c24 h => ?_)
          · intro _; refine spf h (fun c25 h => ?_) (fun c25 h => ?_)
            · intro _; refine spl h (fun c26 h => ?_) (fun c26 h => ?_)
              · intro _; refine spf h (fun c27 h => ?_) (fun c27 h => ?_)
                · intro _; refine dr ?_; refine aCd ?_; intro _; refine spl h (fun c28 h => ?_) (fun c28 h => ?_)
                  · refine aSq ?_; refine aRg ?_; intro _; refine dr ?_; refine aRt ?_; have j29 := Option.some.inj h; subst j29; replace h := (osum_r hK17); intro _; obtain ⟨rfl, rfl⟩ := inj2 h; all_goals (refine Exists.intro [(0, 9000)] (And.intro rfl (And.intro ?_ ?_))); all_goals (exact zg_0)
                  · refine aSk ?_; refine aRg ?_; intro _; refine dr ?_; refine ⟨(k17, (IntKind.i64.wrap (x19.2 + 1))), h, ltS m20, ?_⟩; exact ca_0
                · intro _; refine dr ?_; refine aCd ?_; intro _; refine litT ?_; refine aSq ?_; refine aRg ?_; intro _; refine dr ?_; refine aRt ?_; have j30 := Option.some.inj h; subst j30; replace h := (osum_r hK17); intro _; obtain ⟨rfl, rfl⟩ := inj2 h; all_goals (refine Exists.intro [(0, 9000)] (And.intro rfl (And.intro ?_ ?_))); all_goals (exact zg_0)
              · intro _; refine dr ?_; refine aCd ?_; intro _; refine spl h (fun c31 h => ?_) (fun c31 h => ?_)
                · refine aSq ?_; refine aRg ?_; intro _; refine dr ?_; refine aRt ?_; have j32 := Option.some.inj h; subst j32; replace h := (osum_r hK17); intro _; obtain ⟨rfl, rfl⟩ := inj2 h; all_goals (refine Exists.intro [(0, 9000)] (And.intro rfl (And.intro ?_ ?_))); all_goals (exact zg_0)
                · refine aSk ?_; refine aRg ?_; intro _; refine dr ?_; refine ⟨(k17, (IntKind.i64.wrap (x19.2 + 1))), h, ltS m20, ?_⟩; exact ca_0
            · intro _; refine dr ?_; refine aCd ?_; intro _; refine litT ?_; refine aSq ?_; refine aRg ?_; intro _; refine dr ?_; refine aRt ?_; have j33 := Option.some.inj h; subst j33; replace h := (osum_r hK17); intro _; obtain ⟨rfl, rfl⟩ := inj2 h; all_goals (refine Exists.intro [(0, 9000)] (And.intro rfl (And.intro ?_ ?_))); all_goals (exact zg_0)
          · intro _; refine dr ?_; refine aCd ?_; intro _; refine litT ?_; refine aSq ?_; refine aRg ?_; intro _; refine dr ?_; refine aRt ?_; have j34 := Option.some.inj h; subst j34; replace h := (osum_r hK17); intro _; obtain ⟨rfl, rfl⟩ := inj2 h; all_goals (refine Exists.intro [(0, 9000)] (And.intro rfl (And.intro ?_ ?_))); all_goals (exact zg_0)
        · refine aEx ?_; refine ⟨(), (Option.some.inj h).symm, ?_⟩; exact ca_0
    · rintro _ ho; have ho := ho.symm; subst ho; intro _; replace h := (osum_l hK17); refine aSq ?_; refine aRg ?_; intro _; obtain ⟨z19, u35, h⟩ := ob1_ok h; refine clg [(0, 55)] [] [] [(55, ⟨2, some ⟨9, 1, false, z19.map cS⟩⟩)] (.own 55 2 0 z19.length) rfl rfl (A_FieldsFunc (a0.extract 1 ((IntKind.i64.wrap ((a0.size : Int) - 1)).toNat)) u35) ?_; intro _; refine dr ?_; refine aSq ?_; refine aRg ?_; intro _; refine dr ?_; refine aRt ?_; intro _; obtain ⟨rfl, rfl⟩ := inj2 h; all_goals (refine Exists.intro [(0, 55)] (And.intro rfl (And.intro ?_ ?_))); all_goals (exact zg_0)
def M_formula_reserved : Option (List ByteArray) :=
  some [(⟨#[97, 110, 100]⟩ : ByteArray), (⟨#[111, 114]⟩ : ByteArray), (⟨#[110, 111, 116]⟩ : ByteArray), (⟨#[105, 109, 112, 108, 121]⟩ : ByteArray), (⟨#[102, 111, 114, 97, 108, 108]⟩ : ByteArray), (⟨#[101, 120, 105, 115, 116, 115]⟩ : ByteArray), (⟨#[119, 104, 101, 110]⟩ : ByteArray), (⟨#[97, 115, 115, 105, 103, 110]⟩ : ByteArray), (⟨#[105, 110, 99, 114, 101, 97, 115, 101]⟩ : ByteArray), (⟨#[100, 101, 99, 114, 101, 97, 115, 101]⟩ : ByteArray), (⟨#[111, 98, 106, 101, 99, 116]⟩ : ByteArray)]
set_option maxHeartbeats 16000000 in
set_option maxRecDepth 100000 in
theorem A_formula_reserved {r1 : List ByteArray} (h : M_formula_reserved = some r1) : ACall cx 78 [] (.sl 1 (r1.map cS)) := by
  refine aOf Tryd.func78 rfl (by decide) rfl (Nat.le_of_ble_eq_true rfl) ?_; intro _; unfold M_formula_reserved at h; refine aSq ?_; refine aRg ?_; intro _; refine dr ?_; refine aSq ?_; refine aRg ?_; intro _; refine dr ?_; refine aRt ?_; intro _; obtain rfl := inj1 h; exact ca_0
def M_s_Index_string_L1 (a0 : List ByteArray) (a1 : ByteArray) : Nat → Int → Option (Int)
  | 0, _ => none
  | k5 + 1, v4 =>
    sel (decide (v4 < ((a0.map cS).length : Int)))
     (ix a0 v4 (fun y6 =>
       sel (a1.toList == y6.toList)
        (some v4)
        (M_s_Index_string_L1 a0 a1 k5 (IntKind.i64.wrap (v4 + 1)))))
     (some (-1))
def M_s_Index_string (a0 : List ByteArray) (a1 : ByteArray) : Option (Int) :=
  M_s_Index_string_L1 a0 a1 ((((a0.map cS).length : Int)).toNat + 1) 0
set_option maxHeartbeats 16000000 in
set_option maxRecDepth 100000 in
theorem A_s_Index_string (a0 : List ByteArray) (a1 : ByteArray) {r1 : Int} (h : M_s_Index_string a0 a1 = some r1) : ACall cx 94 [.sl 1 (a0.map cS), .c (.string a1)] (.c (.int .i64 r1)) := by
  refine aOf Tryd.func94 rfl (by decide) rfl (Nat.le_of_ble_eq_true rfl) ?_; intro _; unfold M_s_Index_string at h; refine aSq ?_; refine aRg ?_; intro _; refine dr ?_; refine aSq ?_; refine aSq ?_; refine aRg ?_; intro _; refine dr ?_; refine aBk ?_; refine awp_loop (α := Nat × Int) (fun x => mkS 19 [(0, .sl 1 (a0.map cS)), (1, .c (.string a1)), (7, .c (.int .i64 ((a0.map cS).length : Int))), (8, .c (.int .i64 x.2))] []) (fun x => M_s_Index_string_L1 a0 a1 x.1 x.2 = some r1) (fun x => x.1) ((((a0.map cS).length : Int)).toNat + 1, 0) h ?_ ?_
  · exact ca_0
  · intro x1 h; intro _; obtain ⟨k5, m2, h⟩ := succ_of (f := fun n => M_s_Index_string_L1 a0 a1 n x1.2) rfl h; replace h : M_s_Index_string_L1 a0 a1 (k5 + 1) x1.2 = some r1 := h; rw [M_s_Index_string_L1] at h; refine aSq ?_; refine aRg ?_; intro _; refine dr ?_; refine aSq ?_; refine aCd ?_; intro _; refine spl h (fun c3 h => ?_) (fun c3 h => ?_)
    · refine aSk ?_; refine aSq ?_; refine aBk ?_; refine aSq ?_; refine aRg ?_; intro _; refine dr ?_; refine aSq ?_; refine aRg ?_; intro _; obtain ⟨y6, w4, q5, h⟩ := ix_ok h; refine Exists.intro (cS y6) (And.intro (map_at' w4) ?_); intro _; refine pr ?_; refine dr ?_; refine aCd ?_; intro _; refine spl h (fun c6 h => ?_) (fun c6 h => ?_)
      · refine aSq ?_; refine aRg ?_; intro _; refine dr ?_; refine aRt ?_; intro _; obtain rfl := inj1 h; exact ca_0
      · refine aSk ?_; refine aRg ?_; intro _; refine dr ?_; refine ⟨(k5, (IntKind.i64.wrap (x1.2 + 1))), h, ltS m2, ?_⟩; exact ca_0
    · refine aEx ?_; refine aSq ?_; refine aRg ?_; intro _; refine dr ?_; refine aRt ?_; intro _; obtain rfl := inj1 h; exact ca_0
def M_s_Contains_string (a0 : List ByteArray) (a1 : ByteArray) : Option (Bool) :=
  ob1 (M_s_Index_string a0 a1) (fun z1 =>
   some (decide (z1 ≥ 0)))
set_option maxHeartbeats 16000000 in
set_option maxRecDepth 100000 in
theorem A_s_Contains_string (a0 : List ByteArray) (a1 : ByteArray) {r1 : Bool} (h : M_s_Contains_string a0 a1 = some r1) : ACall cx 77 [.sl 1 (a0.map cS), .c (.string a1)] (.c (.bool r1)) := by
  refine aOf Tryd.func77 rfl (by decide) rfl (Nat.le_of_ble_eq_true rfl) ?_; intro _; unfold M_s_Contains_string at h; refine aSq ?_; refine aRg ?_; intro _; refine dr ?_; refine aSq ?_; refine aRg ?_; intro _; obtain ⟨z1, u1, h⟩ := ob1_ok h; refine cl rfl (A_s_Index_string a0 a1 u1) ?_; intro _; refine dr ?_; refine aRt ?_; intro _; obtain rfl := inj1 h; exact ca_0
def M_formula_Name_L1 (a0 : ByteArray) : Nat → Int → Option (Unit ⊕ Bool)
  | 0, _ => none
  | k18 + 1, v17 =>
    sel (decide (v17 < (a0.size : Int)))
     (grd (0 ≤ v17) (grd (v17 < (a0.size : Int)) (ob1 (sel (decide ((byt a0 v17) ≥ 97))
        (some (decide ((byt a0 v17) ≤ 122)))
        (some false) : Option (Bool))
       (fun v19 => sel (!v19)
          (sel (v17 == 0)
            (some (.inr false))
            (sel (decide ((byt a0 v17) < 48))
              (sel ((byt a0 v17) != 45)
                (sel ((byt a0 v17) != 95)
                  (some (.inr false))
                  (M_formula_Name_L1 a0 k18 (IntKind.i64.wrap (v17 + 1))))
                (M_formula_Name_L1 a0 k18 (IntKind.i64.wrap (v17 + 1))))
              (sel (decide ((byt a0 v17) > 57))
                (sel ((byt a0 v17) != 45)
                  (sel ((byt a0 v17) != 95)
                    (some (.inr false))
                    (M_formula_Name_L1 a0 k18 (IntKind.i64.wrap (v17 + 1))))
                  (M_formula_Name_L1 a0 k18 (IntKind.i64.wrap (v17 + 1))))
                (M_formula_Name_L1 a0 k18 (IntKind.i64.wrap (v17 + 1))))))
          (M_formula_Name_L1 a0 k18 (IntKind.i64.wrap (v17 + 1)))))))
     (some (.inl ()))
def M_formula_Name (a0 : ByteArray) : Option (Bool) :=
  ob1 (M_formula_Name_L1 a0 (((a0.size : Int)).toNat + 1) 0 : Option (Unit ⊕ Bool))
   (osum
   (fun _ => sel (!(a0.toList == (⟨#[]⟩ : ByteArray).toList))
      (sel (decide ((a0.size : Int) ≤ 32))
        (ob1 (M_formula_reserved) (fun z21 =>
          ob1 (M_s_Contains_string z21 a0) (fun z22 =>
           some (!z22))))
        (some false))
      (some false))
   (fun r10 => some r10))
set_option maxHeartbeats 16000000 in
set_option maxRecDepth 100000 in
theorem A_formula_Name (a0 : ByteArray) {r1 : Bool} (h : M_formula_Name a0 = some r1) : ACall cx 54 [.c (.string a0)] (.c (.bool r1)) := by
  refine aOf Tryd.func54 rfl (by decide) rfl (Nat.le_of_ble_eq_true rfl) ?_; intro _; unfold M_formula_Name at h; refine aSq ?_; refine aRg ?_; intro _; refine dr ?_; obtain ⟨o1, h, hK2⟩ := ob1_ok h; refine awp_cut (α := Unit) (fun _ => mkS 56 [(0, .c (.string a0))] []) (fun v => o1 = (.inl v)) ?_ ?_
  · refine aSq ?_; refine aRg ?_; intro _; refine dr ?_; refine aBk ?_; refine awp_loop (α := Nat × Int) (fun x => mkS 56 [(0, .c (.string a0)), (7, .c (.int .i64 (a0.size : Int))), (8, .c (.int .i64 x.2))] []) (fun x => M_formula_Name_L1 a0 x.1 x.2 = some o1) (fun x => x.1) (((a0.size : Int)).toNat + 1, 0) h ?_ ?_
    · exact ca_0
    · intro x3 h; intro _; obtain ⟨k18, m4, h⟩ := succ_of (f := fun n => M_formula_Name_L1 a0 n x3.2) rfl h; replace h : M_formula_Name_L1 a0 (k18 + 1) x3.2 = some o1 := h; rw [M_formula_Name_L1] at h; refine aSq ?_; refine aRg ?_; intro _; refine dr ?_; refine aSq ?_; refine aCd ?_; intro _; refine spl h (fun c5 h => ?_) (fun c5 h => ?_)
      · refine aSk ?_; refine aSq ?_; refine aBk ?_; refine aSq ?_; refine aRg ?_; intro _; refine dr ?_; refine aSq ?_; refine aRg ?_; intro _; obtain ⟨q6, h⟩ := grd_ok h; obtain ⟨q7, h⟩ := grd_ok h; refine pr ?_; refine pr ?_; refine dr ?_; obtain ⟨o8, h, hK9⟩ := ob1_ok h; refine awp_cut (α := Bool) (fun v19 => mkS 56 [(0, .c (.string a0)), (3, .c (.int .i64 x3.2)), (4, .c (.int .u8 (byt a0 x3.2))), (5, .c (.bool v19)), (7, .c (.int .i64 (a0.size : Int))), (8, .c (.int .i64 x3.2))] []) (fun v => o8 = v) ?_ ?_
        · refine aRg ?_; intro _; refine spl h (fun c10 h => ?_) (fun c10 h => ?_)
          · intro _; refine dr ?_; refine ⟨(decide ((byt a0 x3.2) ≤ 122)), (Option.some.inj h).symm, ?_⟩; exact ca_0
          · intro _; refine dr ?_; refine ⟨false, (Option.some.inj h).symm, ?_⟩; exact ca_0
        · rintro v19 ho; have ho := ho.symm; subst ho; intro _; replace h := hK9; refine aSq ?_; refine aRg ?_; intro _; refine spl h (fun c11 h => ?_) (fun c11 h => ?_)
          · intro _; refine spf h (fun c12 h => ?_) (fun c12 h => ?_)
            · intro _; refine spf h (fun c13 h => ?_) (fun c13 h => ?_)
              · intro _; refine spl h (fun c14 h => ?_) (fun c14 h => ?_)
                · intro _; refine spl h (fun c15 h => ?_) (fun c15 h => ?_)
                  · intro _; refine dr ?_; refine aCd ?_; intro _; refine spl h (fun c16 h => ?_) (fun c16 h => ?_)
                    · refine aSq ?_; refine aRg ?_; intro _; refine dr ?_; refine aRt ?_; have j17 := Option.some.inj h; subst j17; replace h := (osum_r hK2); intro _; obtain rfl := inj1 h; exact ca_0
                    · refine aSk ?_; refine aRg ?_; intro _; refine dr ?_; refine ⟨(k18, (IntKind.i64.wrap (x3.2 + 1))), h, ltS m4, ?_⟩; exact ca_0
                  · intro _; refine dr ?_; refine aCd ?_; intro _; refine litF ?_; refine aSk ?_; refine aRg ?_; intro _; refine dr ?_; refine ⟨(k18, (IntKind.i64.wrap (x3.2 + 1))), h, ltS m4, ?_⟩; exact ca_0
                · intro _; refine dr ?_; refine aCd ?_; intro _; refine litF ?_; refine aSk ?_; refine aRg ?_; intro _; refine dr ?_; refine ⟨(k18, (IntKind.i64.wrap (x3.2 + 1))), h, ltS m4, ?_⟩; exact ca_0
              · intro _; refine spl h (fun c18 h => ?_) (fun c18 h => ?_)
                · intro _; refine dr ?_; refine aCd ?_; intro _; refine spl h (fun c19 h => ?_) (fun c19 h => ?_)
                  · refine aSq ?_; refine aRg ?_; intro _; refine dr ?_; refine aRt ?_; have j20 := Option.some.inj h; subst j20; replace h := (osum_r hK2); intro _; obtain rfl := inj1 h; exact ca_0
                  · refine aSk ?_; refine aRg ?_; intro _; refine dr ?_; refine ⟨(k18, (IntKind.i64.wrap (x3.2 + 1))), h, ltS m4, ?_⟩; exact ca_0
                · intro _; refine dr ?_; refine aCd ?_; intro _; refine litF ?_; refine aSk ?_; refine aRg ?_; intro _; refine dr ?_; refine ⟨(k18, (IntKind.i64.wrap (x3.2 + 1))), h, ltS m4, ?_⟩; exact ca_0
            · intro _; refine dr ?_; refine aCd ?_; intro _; refine litT ?_; refine aSq ?_; refine aRg ?_; intro _; refine dr ?_; refine aRt ?_; have j21 := Option.some.inj h; subst j21; replace h := (osum_r hK2); intro _; obtain rfl := inj1 h; exact ca_0
          · intro _; refine dr ?_; refine aCd ?_; intro _; refine litF ?_; refine aSk ?_; refine aRg ?_; intro _; refine dr ?_; refine ⟨(k18, (IntKind.i64.wrap (x3.2 + 1))), h, ltS m4, ?_⟩; exact ca_0
      · refine aEx ?_; refine ⟨(), (Option.some.inj h).symm, ?_⟩; exact ca_0
  · rintro _ ho; have ho := ho.symm; subst ho; intro _; replace h := (osum_l hK2); refine aSq ?_; refine aRg ?_; intro _; refine spl h (fun c22 h => ?_) (fun c22 h => ?_)
    · intro _; refine spl h (fun c23 h => ?_) (fun c23 h => ?_)
      · intro _; obtain ⟨z21, u24, h⟩ := ob1_ok h; refine cl rfl (A_formula_reserved u24) ?_; intro _; obtain ⟨z22, u25, h⟩ := ob1_ok h; refine cl rfl (A_s_Contains_string z21 a0 u25) ?_; intro _; refine dr ?_; refine aRt ?_; intro _; obtain rfl := inj1 h; exact ca_0
      · intro _; refine dr ?_; refine aRt ?_; intro _; obtain rfl := inj1 h; exact ca_0
    · intro _; refine dr ?_; refine aRt ?_; intro _; obtain rfl := inj1 h; exact ca_0
def M_strings_Clone (a0 : ByteArray) : Option (ByteArray) :=
  ob1 (M_stringslite_Clone a0) (fun z1 =>
   some z1)
set_option maxHeartbeats 16000000 in
set_option maxRecDepth 100000 in
theorem A_strings_Clone (a0 : ByteArray) {r1 : ByteArray} (h : M_strings_Clone a0 = some r1) : ACall cx 55 [.c (.string a0)] (.c (.string r1)) := by
  refine aOf Tryd.func55 rfl (by decide) rfl (Nat.le_of_ble_eq_true rfl) ?_; intro _; unfold M_strings_Clone at h; refine aSq ?_; refine aRg ?_; intro _; refine dr ?_; refine aSq ?_; refine aRg ?_; intro _; obtain ⟨z1, u1, h⟩ := ob1_ok h; refine cl rfl (A_stringslite_Clone a0 u1) ?_; intro _; refine dr ?_; refine aRt ?_; intro _; obtain rfl := inj1 h; exact ca_0
def M_planfile_step_L1 (z12 : List ByteArray) : Nat → Int → (List ByteArray) → Option ((List ByteArray) ⊕ (GStep × Er))
  | 0, _, _ => none
  | k52 + 1, v50, v51 =>
    sel (decide (v50 < ((z12.length : Nat) : Int)))
     (ixn v51 ((v50).toNat) (fun y53 =>
       ob1 (M_lower y53) (fun z54 =>
        ixn v51 ((v50).toNat) (fun _ =>
         grd (0 ≤ v50) (grd (v50 < ((v51.length : Nat) : Int)) (ixn (v51.set ((v50).toNat) z54) ((v50).toNat) (fun y56 =>
          ob1 (M_formula_Name y56) (fun z57 =>
           sel (!z57)
            (some (.inr ({ At := 0, Name := (⟨#[]⟩ : ByteArray), Args := [] : GStep }, (Er.no 8))))
            (M_planfile_step_L1 z12 k52 (IntKind.i64.wrap (v50 + 1)) (v51.set ((v50).toNat) z54))))))))))
     (some (.inl v51))
def M_planfile_step (a0 : ByteArray) (a1 : Bool) : Option (GStep × Er) :=
  ob1 (sel a1
    (ob3 (M_planfile_clock a0) (fun z9 z10 z11 =>
      sel (!z11)
       (some (.inr ({ At := 0, Name := (⟨#[]⟩ : ByteArray), Args := [] : GStep }, (Er.no 2))))
       (some (.inl (z10, z9)))))
    (some (.inl (a0, 0))) : Option ((ByteArray × Int) ⊕ (GStep × Er)))
   (osum
   (fun (v4, v5) => ob2 (M_planfile_words v4) (fun z12 z13 =>
      sel (!z13)
       (some ({ At := 0, Name := (⟨#[]⟩ : ByteArray), Args := [] : GStep }, (Er.no 2)))
       (sel (decide (v5 > 1048576))
         (some ({ At := 0, Name := (⟨#[]⟩ : ByteArray), Args := [] : GStep }, (Er.no 1)))
         (ob1 (M_planfile_step_L1 z12 ((((z12.length : Nat) : Int)).toNat + 1) 0 z12 : Option ((List ByteArray) ⊕ (GStep × Er)))
           (osum
           (fun v34 => ixn v34 0 (fun y58 =>
              ob1 (M_strings_Clone y58) (fun z59 =>
               grd (v34.length - 1 ≤ 140737488355328) (grd (1 + (v34.length - 1) ≤ v34.length) (ob1 (M_cloneS ((v34.drop 1).take (v34.length - 1))) (fun z60 =>
                grd (0 < ((v34.length : Nat) : Int)) (grd (1 ≤ v34.length) (some ({ At := v5, Name := z59, Args := z60 : GStep }, Er.nil)))))))))
           (fun (r35, r36) => some (r35, r36)))))))
   (fun (r6, r7) => some (r6, r7)))
set_option maxHeartbeats 16000000 in
set_option maxRecDepth 100000 in
theorem A_planfile_step (a0 : ByteArray) (a1 : Bool) {r1 : GStep} {r2 : Er} (h : M_planfile_step a0 a1 = some (r1, r2)) : ACall cx 25 [.c (.string a0), .c (.bool a1)] (.tup [.agg [.c (.int .i64 r1.At), .c (.string r1.Name), .sl 1 (r1.Args.map cS)], eA r2]) := by
  refine aOf Tryd.func25 rfl (by decide) rfl (Nat.le_of_ble_eq_true rfl) ?_; intro _; unfold M_planfile_step at h; refine aSq ?_; refine aRg ?_; intro _; refine dr ?_; refine aSq ?_; refine aRg ?_; intro _; refine dr ?_; obtain ⟨o1, h, hK2⟩ := ob1_ok h; refine awp_cut (α := ByteArray × Int) (fun (v4, v5) => mkS 70 [(0, .c (.string v4)), (4, .ptr 4 0 0 0), (6, .c (.int .i64 v5))] [(4, ⟨37, 3, true, [[.c (.int .i64 0), .c (.string (⟨#[]⟩ : ByteArray)), .c (.slice none 0 0)]]⟩)]) (fun v => o1 = (.inl v)) ?_ ?_
  · refine aSq ?_; refine aRg ?_; intro _; refine dr ?_; refine aCd ?_; intro _; refine spl h (fun c3 h => ?_) (fun c3 h => ?_)
    · refine aSq ?_; refine aRg ?_; intro _; obtain ⟨z9, z10, z11, u4, h⟩ := ob3_ok h; refine cl rfl (A_planfile_clock a0 u4) ?_; intro _; refine dr ?_; refine aSq ?_; refine aSq ?_; refine aRg ?_; intro _; refine dr ?_; refine aCd ?_; intro _; refine spl h (fun c5 h => ?_) (fun c5 h => ?_)
      · refine aSq ?_; refine aRg ?_; intro _; refine dr ?_; refine aRt ?_; have j6 := Option.some.inj h; subst j6; replace h := (osum_r hK2); intro _; obtain ⟨rfl, rfl⟩ := inj2 h; exact ca_0
      · refine aSk ?_; refine aRg ?_; intro _; refine dr ?_; refine ⟨(z10, z9), (Option.some.inj h).symm, ?_⟩; exact ca_0
    · refine aSk ?_; refine ⟨(a0, 0), (Option.some.inj h).symm, ?_⟩; exact ca_0
  · rintro ⟨v4, v5⟩ ho; have ho := ho.symm; subst ho; intro _; replace h := (osum_l hK2); refine aSq ?_; refine aRg ?_; intro _; obtain ⟨z12, z13, u7, h⟩ := ob2_ok h; refine clg [(0, 28)] [] [] [(28, ⟨2, some ⟨9, 1, false, z12.map cS⟩⟩)] (.tup [.own 28 2 0 z12.length, .c (.bool z13)]) rfl rfl (A_planfile_words v4 u7) ?_; intro _; refine dr ?_; refine aSq ?_; refine aSq ?_; refine aRg ?_; intro _; refine dr ?_; refine aCd ?_; intro _; refine spl h (fun c8 h => ?_) (fun c8 h => ?_)
    · refine aSq ?_; refine aRg ?_; intro _; refine dr ?_; refine aRt ?_; intro _; obtain ⟨rfl, rfl⟩ := inj2 h; exact ca_0
    · refine aSk ?_; refine aSq ?_; refine aSq ?_; refine aRg ?_; intro _; refine dr ?_; refine aCd ?_; intro _; refine spl h (fun c9 h => ?_) (fun c9 h => ?_)
      · refine aSq ?_; refine aRg ?_; intro _; refine dr ?_; refine aRt ?_; intro _; obtain ⟨rfl, rfl⟩ := inj2 h; exact ca_0
      · refine aSk ?_; obtain ⟨o10, h, hK11⟩ := ob1_ok h; refine awp_cut (α := List ByteArray) (fun v34 => mkS 70 [(4, .ptr 4 0 0 0), (6, .c (.int .i64 v5)), (10, .own 28 0 0 v34.length)] [(4, ⟨37, 3, true, [[.c (.int .i64 0), .c (.string (⟨#[]⟩ : ByteArray)), .c (.slice none 0 0)]]⟩), (28, ⟨9, 1, false, v34.map cS⟩)]) (fun v => o10 = (.inl v)) ?_ ?_
        · refine aSq ?_; refine aRg ?_; intro _; refine dr ?_; refine aBk ?_; refine awp_loop (α := Nat × Int × (List ByteArray)) (fun x => mkS 70 [(4, .ptr 4 0 0 0), (6, .c (.int .i64 v5)), (10, .own 28 0 0 x.2.2.length), (40, .c (.int .i64 ((z12.length : Nat) : Int))), (41, .c (.int .i64 x.2.1))] [(4, ⟨37, 3, true, [[.c (.int .i64 0), .c (.string (⟨#[]⟩ : ByteArray)), .c (.slice none 0 0)]]⟩), (28, ⟨9, 1, false, x.2.2.map cS⟩)]) (fun x => M_planfile_step_L1 z12 x.1 x.2.1 x.2.2 = some o10) (fun x => x.1) ((((z12.length : Nat) : Int)).toNat + 1, 0, z12) h ?_ ?_
          · exact ca_0
          · intro x12 h; intro _; obtain ⟨k52, m13, h⟩ := succ_of (f := fun n => M_planfile_step_L1 z12 n x12.2.1 x12.2.2) rfl h; replace h : M_planfile_step_L1 z12 (k52 + 1) x12.2.1 x12.2.2 = some o10 := h; rw [M_planfile_step_L1] at h; refine aSq ?_; refine aRg ?_; intro _; refine dr ?_; refine aSq ?_; refine aCd ?_; intro _; refine spl h (fun c14 h => ?_) (fun c14 h => ?_)
            · refine aSk ?_; refine aSq ?_; refine aBk ?_; refine aSq ?_; refine aRg ?_; intro _; refine dr ?_; refine aSq ?_; refine aRg ?_; intro _; obtain ⟨y53, w15, h⟩ := ixn_ok h; refine Exists.intro (cS y53) (And.intro (by first | exact map_at' w15 | (have w := map_at' (f := cS) w15; simpa [cS] using w)) ?_); intro _; obtain ⟨z54, u16, h⟩ := ob1_ok h; refine cl rfl (A_lower y53 u16) ?_; intro _; obtain ⟨y55, w17, h⟩ := ixn_ok h; refine Exists.intro (cS y55) (And.intro (by first | exact map_at' w17 | (have w := map_at' (f := cS) w17; simpa [cS] using w)) ?_); intro _; obtain ⟨q18, h⟩ := grd_ok h; obtain ⟨q19, h⟩ := grd_ok h; refine pr ?_; refine pr ?_; refine pr ?_; refine pr ?_; refine dr ?_; refine aSq ?_; refine aRg ?_; intro _; obtain ⟨y56, w20, h⟩ := ixn_ok h; refine Exists.intro (cS y56) (And.intro (by first | exact map_at' w20 | (have w := map_at' (f := cS) w20; simpa [cS] using w)) ?_); intro _; obtain ⟨z57, u21, h⟩ := ob1_ok h; refine cl rfl (A_formula_Name y56 u21) ?_; intro _; refine pr ?_; refine pr ?_; refine dr ?_; refine aCd ?_; intro _; refine spl h (fun c22 h => ?_) (fun c22 h => ?_)
              · refine aSq ?_; refine aRg ?_; intro _; refine dr ?_; refine aRt ?_; have j23 := Option.some.inj h; subst j23; replace h := (osum_r hK11); intro _; obtain ⟨rfl, rfl⟩ := inj2 h; exact ca_0
              · refine aSk ?_; refine aRg ?_; intro _; refine dr ?_; refine ⟨(k52, (IntKind.i64.wrap (x12.2.1 + 1)), (x12.2.2.set ((x12.2.1).toNat) z54)), h, ltS m13, ?_⟩; exact ca_0
            · refine aEx ?_; refine ⟨x12.2.2, (Option.some.inj h).symm, ?_⟩; exact ca_0
        · rintro v34 ho; have ho := ho.symm; subst ho; intro _; replace h := (osum_l hK11); refine aSq ?_; refine aRg ?_; intro _; obtain ⟨y58, w24, h⟩ := ixn_ok h; refine Exists.intro (cS y58) (And.intro (by first | exact map_at' w24 | (have w := map_at' (f := cS) w24; simpa [cS] using w)) ?_); intro _; obtain ⟨z59, u25, h⟩ := ob1_ok h; refine cl rfl (A_strings_Clone y58 u25) ?_; intro _; obtain ⟨q26, h⟩ := grd_ok h; obtain ⟨q27, h⟩ := grd_ok h; obtain ⟨z60, u28, h⟩ := ob1_ok h; refine clf [(28, ⟨1, none⟩)] rfl rfl (A_cloneS ((v34.drop 1).take (v34.length - 1)) u28) ?_; intro _; obtain ⟨q29, h⟩ := grd_ok h; obtain ⟨q30, h⟩ := grd_ok h; refine pr ?_; refine pr ?_; refine pr ?_; refine pr ?_; refine pr ?_; refine dr ?_; refine aRt ?_; intro _; obtain ⟨rfl, rfl⟩ := inj2 h; exact ca_0
def M_planfile_Parse_L1 (a1 : Bool) (z1 : List ByteArray) : Nat → Int → (List GStep) → Option ((List GStep) × Int × Er)
  | 0, _, _ => none
  | k18 + 1, v16, v17 =>
    sel (decide (v16 < ((z1.map cS).length : Int)))
     (ix z1 v16 (fun y19 =>
       ob1 (M_strings_Trim y19 (⟨#[32, 9, 13]⟩ : ByteArray)) (fun z20 =>
        ob1 (sel (z20.toList == (⟨#[]⟩ : ByteArray).toList)
          (some (.inr ()))
          (grd (0 < (z20.size : Int)) (sel ((byt z20 0) == 59)
            (some (.inr ()))
            (some (.inl ())))) : Option (Unit ⊕ Unit))
         (osum
         (fun _ => ob2 (M_planfile_step z20 a1) (fun z22 z23 =>
            erM z23
             (grd ((v17.length + 1) * 48 ≤ 140737488355328) (M_planfile_Parse_L1 a1 z1 k18 (IntKind.i64.wrap (v16 + 1)) (v17 ++ [z22])))
             (fun e24 => some ([], (IntKind.i64.wrap (v16 + 1)), (Er.no e24)))))
         (fun _ => M_planfile_Parse_L1 a1 z1 k18 (IntKind.i64.wrap (v16 + 1)) v17)))))
     (grd (v17.length ≤ 140737488355328) (some (v17, 0, Er.nil)))
def M_planfile_Parse (a0 : ByteArray) (a1 : Bool) : Option ((List GStep) × Int × Er) :=
  sel (decide ((a0.size : Int) > 65536))
   (some ([], 0, (Er.no 5)))
   (ob1 (M_strings_Split a0 (⟨#[10]⟩ : ByteArray)) (fun z1 =>
     M_planfile_Parse_L1 a1 z1 ((((z1.map cS).length : Int)).toNat + 1) 0 []))
set_option maxHeartbeats 16000000 in
set_option maxRecDepth 100000 in
theorem A_planfile_Parse (a0 : ByteArray) (a1 : Bool) {r1 : List GStep} {r2 : Int} {r3 : Er} (h : M_planfile_Parse a0 a1 = some (r1, r2, r3)) : ACall cx 11 [.c (.string a0), .c (.bool a1)] (.tup [.sl 3 (r1.map cGStep), .c (.int .i64 r2), eA r3]) := by
  refine aOf Tryd.func11 rfl (by decide) rfl (Nat.le_of_ble_eq_true rfl) ?_; intro _; unfold M_planfile_Parse at h; refine aSq ?_; refine aRg ?_; intro _; refine dr ?_; refine aSq ?_; refine aSq ?_; refine aRg ?_; intro _; refine dr ?_; refine aCd ?_; intro _; refine spl h (fun c1 h => ?_) (fun c1 h => ?_)
  · refine aSq ?_; refine aRg ?_; intro _; refine dr ?_; refine aRt ?_; intro _; obtain ⟨rfl, rfl, rfl⟩ := inj3 h; exact ca_0
  · refine aSk ?_; refine aSq ?_; refine aRg ?_; intro _; refine dr ?_; refine aSq ?_; refine aSq ?_; refine aRg ?_; intro _; obtain ⟨z1, u2, h⟩ := ob1_ok h; refine cl rfl (A_strings_Split a0 (⟨#[10]⟩ : ByteArray) u2) ?_; intro _; refine dr ?_; refine aBk ?_; refine awp_loop (α := Nat × Int × (List GStep)) (fun x => mkS 50 [(1, .c (.bool a1)), (7, .own 47 0 0 x.2.2.length), (17, .sl 1 (z1.map cS)), (18, .c (.int .i64 ((z1.map cS).length : Int))), (19, .c (.int .i64 x.2.1))] [(47, ⟨37, 3, false, x.2.2.map cGStep⟩)]) (fun x => M_planfile_Parse_L1 a1 z1 x.1 x.2.1 x.2.2 = some (r1, r2, r3)) (fun x => x.1) ((((z1.map cS).length : Int)).toNat + 1, 0, []) h ?_ ?_
    · exact ca_0
    · intro x3 h; intro _; obtain ⟨k18, m4, h⟩ := succ_of (f := fun n => M_planfile_Parse_L1 a1 z1 n x3.2.1 x3.2.2) rfl h; replace h : M_planfile_Parse_L1 a1 z1 (k18 + 1) x3.2.1 x3.2.2 = some (r1, r2, r3) := h; rw [M_planfile_Parse_L1] at h; refine aSq ?_; refine aRg ?_; intro _; refine dr ?_; refine aSq ?_; refine aCd ?_; intro _; refine spl h (fun c5 h => ?_) (fun c5 h => ?_)
      · refine aSk ?_; refine aSq ?_; refine aBk ?_; refine aSq ?_; refine aRg ?_; intro _; obtain ⟨y19, w6, q7, h⟩ := ix_ok h; refine Exists.intro (cS y19) (And.intro (map_at' w6) ?_); intro _; refine pr ?_; refine dr ?_; refine aSq ?_; refine aRg ?_; intro _; obtain ⟨z20, u8, h⟩ := ob1_ok h; refine cl rfl (A_strings_Trim y19 (⟨#[32, 9, 13]⟩ : ByteArray) u8) ?_; intro _; refine dr ?_; obtain ⟨o9, h, hK10⟩ := ob1_ok h; refine awp_cut (α := Unit) (fun _ => mkS 50 [(1, .c (.bool a1)), (7, .own 47 0 0 x3.2.2.length), (8, .c (.int .i64 x3.2.1)), (9, .c (.string z20)), (17, .sl 1 (z1.map cS)), (18, .c (.int .i64 ((z1.map cS).length : Int))), (19, .c (.int .i64 x3.2.1)), (29, .c (.string z20)), (30, .c (.int .u8 (byt z20 0))), (31, .c (.bool ((byt z20 0) == 59)))] [(47, ⟨37, 3, false, x3.2.2.map cGStep⟩)]) (fun v => o9 = (.inl v)) ?_ ?_
        · refine aSq ?_; refine aRg ?_; intro _; refine spf h (fun c11 h => ?_) (fun c11 h => ?_)
          · intro _; obtain ⟨q12, h⟩ := grd_ok h; refine pr ?_; refine pr ?_; refine dr ?_; refine aCd ?_; intro _; refine spl h (fun c13 h => ?_) (fun c13 h => ?_)
            · refine aEx ?_; have j14 := Option.some.inj h; subst j14; replace h := (osum_r hK10); refine aRg ?_; intro _; refine dr ?_; refine ⟨(k18, (IntKind.i64.wrap (x3.2.1 + 1)), x3.2.2), h, ltS m4, ?_⟩; exact ca_0
            · refine aSk ?_; refine ⟨(), (Option.some.inj h).symm, ?_⟩; exact ca_0
          · intro _; refine dr ?_; refine aCd ?_; intro _; refine litT ?_; refine aEx ?_; have j15 := Option.some.inj h; subst j15; replace h := (osum_r hK10); refine aRg ?_; intro _; refine dr ?_; refine ⟨(k18, (IntKind.i64.wrap (x3.2.1 + 1)), x3.2.2), h, ltS m4, ?_⟩; exact ca_0
        · rintro _ ho; have ho := ho.symm; subst ho; intro _; replace h := (osum_l hK10); refine aSq ?_; refine aRg ?_; intro _; obtain ⟨z22, z23, u16, h⟩ := ob2_ok h; refine cl rfl (A_planfile_step z20 a1 u16) ?_; intro _; refine dr ?_; refine aSq ?_; refine aSq ?_; rcases z23 with _ | e24
          · replace h := erM_nil h; refine aRg ?_; intro _; refine dr ?_; refine aCd ?_; intro _; refine litF ?_; refine aSk ?_; refine aRg ?_; intro _; obtain ⟨q17, h⟩ := grd_ok h; refine pl ?_; refine pl ?_; refine And.intro (by first | with_reducible assumption | (show (x3.2.2.length + 1) * 48 ≤ 140737488355328; with_reducible assumption) | omega | (simp; omega)) ?_; refine pe ?_; refine dr ?_; refine aRg ?_; intro _; refine dr ?_; refine ⟨(k18, (IntKind.i64.wrap (x3.2.1 + 1)), (x3.2.2 ++ [z22])), h, ltS m4, ?_⟩; exact ca_0
          · replace h := erM_no h; refine aRg ?_; intro _; refine dr ?_; refine aCd ?_; intro _; refine litT ?_; refine aSq ?_; refine aRg ?_; intro _; refine dr ?_; refine aRt ?_; intro _; obtain ⟨rfl, rfl, rfl⟩ := inj3 h; exact ca_0
      · refine aEx ?_; refine aSq ?_; refine aRg ?_; intro _; refine dr ?_; refine aRt ?_; obtain ⟨q18, h⟩ := grd_ok h; intro _; obtain ⟨rfl, rfl, rfl⟩ := inj3 h; exact ca_0
def M_b_Texts_L1 (a0 : List ByteArray) (a1 : List ByteArray) : Nat → Int → Option (Bool)
  | 0, _ => none
  | k7 + 1, v6 =>
    sel (decide (v6 < ((a0.map cS).length : Int)))
     (ix a0 v6 (fun y8 =>
       ix a1 v6 (fun y9 =>
        sel (!(y8.toList == y9.toList))
         (some false)
         (M_b_Texts_L1 a0 a1 k7 (IntKind.i64.wrap (v6 + 1))))))
     (some true)
def M_b_Texts (a0 : List ByteArray) (a1 : List ByteArray) : Option (Bool) :=
  sel (((a0.map cS).length : Int) != ((a1.map cS).length : Int))
   (some false)
   (M_b_Texts_L1 a0 a1 ((((a0.map cS).length : Int)).toNat + 1) 0)
set_option maxHeartbeats 16000000 in
set_option maxRecDepth 100000 in
theorem A_b_Texts (a0 : List ByteArray) (a1 : List ByteArray) {r1 : Bool} (h : M_b_Texts a0 a1 = some r1) : ACall cx 22 [.sl 1 (a0.map cS), .sl 1 (a1.map cS)] (.c (.bool r1)) := by
  refine aOf Tryd.func22 rfl (by decide) rfl (Nat.le_of_ble_eq_true rfl) ?_; intro _; unfold M_b_Texts at h; refine aSq ?_; refine aRg ?_; intro _; refine dr ?_; refine aSq ?_; refine aSq ?_; refine aRg ?_; intro _; refine dr ?_; refine aCd ?_; intro _; refine spl h (fun c1 h => ?_) (fun c1 h => ?_)
  · refine aSq ?_; refine aRg ?_; intro _; refine dr ?_; refine aRt ?_; intro _; obtain rfl := inj1 h; exact ca_0
  · refine aSk ?_; refine aSq ?_; refine aSq ?_; refine aRg ?_; intro _; refine dr ?_; refine aBk ?_; refine awp_loop (α := Nat × Int) (fun x => mkS 26 [(0, .sl 1 (a0.map cS)), (1, .sl 1 (a1.map cS)), (12, .c (.int .i64 ((a0.map cS).length : Int))), (13, .c (.int .i64 x.2))] []) (fun x => M_b_Texts_L1 a0 a1 x.1 x.2 = some r1) (fun x => x.1) ((((a0.map cS).length : Int)).toNat + 1, 0) h ?_ ?_
    · exact ca_0
    · intro x2 h; intro _; obtain ⟨k7, m3, h⟩ := succ_of (f := fun n => M_b_Texts_L1 a0 a1 n x2.2) rfl h; replace h : M_b_Texts_L1 a0 a1 (k7 + 1) x2.2 = some r1 := h; rw [M_b_Texts_L1] at h; refine aSq ?_; refine aRg ?_; intro _; refine dr ?_; refine aSq ?_; refine aCd ?_; intro _; refine spl h (fun c4 h => ?_) (fun c4 h => ?_)
      · refine aSk ?_; refine aSq ?_; refine aBk ?_; refine aSq ?_; refine aRg ?_; intro _; refine dr ?_; refine aSq ?_; refine aRg ?_; intro _; obtain ⟨y8, w5, q6, h⟩ := ix_ok h; refine Exists.intro (cS y8) (And.intro (map_at' w5) ?_); intro _; obtain ⟨y9, w7, q8, h⟩ := ix_ok h; refine Exists.intro (cS y9) (And.intro (map_at' w7) ?_); intro _; refine pr ?_; refine pr ?_; refine dr ?_; refine aCd ?_; intro _; refine spl h (fun c9 h => ?_) (fun c9 h => ?_)
        · refine aSq ?_; refine aRg ?_; intro _; refine dr ?_; refine aRt ?_; intro _; obtain rfl := inj1 h; exact ca_0
        · refine aSk ?_; refine aRg ?_; intro _; refine dr ?_; refine ⟨(k7, (IntKind.i64.wrap (x2.2 + 1))), h, ltS m3, ?_⟩; exact ca_0
      · refine aEx ?_; refine aSq ?_; refine aRg ?_; intro _; refine dr ?_; refine aRt ?_; intro _; obtain rfl := inj1 h; exact ca_0
def M_l13_awake : Option (Bool) :=
  ob3 (M_planfile_Parse (⟨#[40, 109, 111, 118, 101, 32, 97, 32, 98, 41]⟩ : ByteArray) false) (fun z1 _ z3 =>
   erM z3
    (sel (((z1.map cGStep).length : Int) == 1)
      (ix z1 0 (fun y5 =>
        sel (y5.Name.toList == (⟨#[109, 111, 118, 101]⟩ : ByteArray).toList)
         (ix z1 0 (fun y6 =>
           ob1 (M_b_Texts y6.Args [(⟨#[97]⟩ : ByteArray), (⟨#[98]⟩ : ByteArray)]) (fun z7 =>
            some z7)))
         (some false)))
      (some false))
    (fun _ => some false))
set_option maxHeartbeats 16000000 in
set_option maxRecDepth 100000 in
theorem A_l13_awake {r1 : Bool} (h : M_l13_awake = some r1) : ACall cx 10 [] (.c (.bool r1)) := by
  refine aOf Tryd.func10 rfl (by decide) rfl (Nat.le_of_ble_eq_true rfl) ?_; intro _; unfold M_l13_awake at h; refine aSq ?_; refine aRg ?_; intro _; refine dr ?_; refine aSq ?_; refine aRg ?_; intro _; obtain ⟨z1, z2, z3, u1, h⟩ := ob3_ok h; refine cl rfl (A_planfile_Parse (⟨#[40, 109, 111, 118, 101, 32, 97, 32, 98, 41]⟩ : ByteArray) false u1) ?_; intro _; refine dr ?_; refine aSq ?_; rcases z3 with _ | e4
  · replace h := erM_nil h; refine aRg ?_; intro _; refine litT ?_; intro _; refine spl h (fun c2 h => ?_) (fun c2 h => ?_)
    · intro _; obtain ⟨y5, w3, q4, h⟩ := ix_ok h; refine Exists.intro (cGStep y5) (And.intro (map_at' w3) ?_); intro _; refine spl h (fun c5 h => ?_) (fun c5 h => ?_)
      · intro _; obtain ⟨y6, w6, q7, h⟩ := ix_ok h; refine Exists.intro (cGStep y6) (And.intro (map_at' w6) ?_); intro _; obtain ⟨z7, u8, h⟩ := ob1_ok h; refine clb [28] rfl rfl (A_b_Texts y6.Args [(⟨#[97]⟩ : ByteArray), (⟨#[98]⟩ : ByteArray)] u8) ?_; intro _; refine pr ?_; refine pr ?_; refine dr ?_; refine aRt ?_; intro _; obtain rfl := inj1 h; exact ca_0
      · intro _; refine pr ?_; refine dr ?_; refine aRt ?_; intro _; obtain rfl := inj1 h; exact ca_0
    · intro _; refine dr ?_; refine aRt ?_; intro _; obtain rfl := inj1 h; exact ca_0
  · replace h := erM_no h; refine aRg ?_; intro _; refine litF ?_; intro _; refine dr ?_; refine aRt ?_; intro _; obtain rfl := inj1 h; exact ca_0
def M_l13_Same_L1 (a0 : List GStep) (a1 : List GStep) : Nat → Int → Option (Bool)
  | 0, _ => none
  | k17 + 1, v16 =>
    sel (decide (v16 < ((a0.map cGStep).length : Int)))
     (ix a0 v16 (fun y18 =>
       ix a1 v16 (fun y19 =>
        sel (y18.At != y19.At)
         (some false)
         (ix a0 v16 (fun y20 =>
           ix a1 v16 (fun y21 =>
            sel (!(y20.Name.toList == y21.Name.toList))
             (some false)
             (ix a0 v16 (fun y22 =>
               ix a1 v16 (fun y23 =>
                ob1 (M_b_Texts y22.Args y23.Args) (fun z24 =>
                 sel (!z24)
                  (some false)
                  (M_l13_Same_L1 a0 a1 k17 (IntKind.i64.wrap (v16 + 1)))))))))))))
     (some true)
def M_l13_Same (a0 : List GStep) (a1 : List GStep) : Option (Bool) :=
  sel (((a0.map cGStep).length : Int) != ((a1.map cGStep).length : Int))
   (some false)
   (M_l13_Same_L1 a0 a1 ((((a0.map cGStep).length : Int)).toNat + 1) 0)
set_option maxHeartbeats 16000000 in
set_option maxRecDepth 100000 in
theorem A_l13_Same (a0 : List GStep) (a1 : List GStep) {r1 : Bool} (h : M_l13_Same a0 a1 = some r1) : ACall cx 14 [.sl 3 (a0.map cGStep), .sl 3 (a1.map cGStep)] (.c (.bool r1)) := by
  refine aOf Tryd.func14 rfl (by decide) rfl (Nat.le_of_ble_eq_true rfl) ?_; intro _; unfold M_l13_Same at h; refine aSq ?_; refine aRg ?_; intro _; refine dr ?_; refine aSq ?_; refine aSq ?_; refine aRg ?_; intro _; refine dr ?_; refine aCd ?_; intro _; refine spl h (fun c1 h => ?_) (fun c1 h => ?_)
  · refine aSq ?_; refine aRg ?_; intro _; refine dr ?_; refine aRt ?_; intro _; obtain rfl := inj1 h; exact ca_0
  · refine aSk ?_; refine aSq ?_; refine aSq ?_; refine aRg ?_; intro _; refine dr ?_; refine aBk ?_; refine awp_loop (α := Nat × Int) (fun x => mkS 55 [(0, .sl 3 (a0.map cGStep)), (1, .sl 3 (a1.map cGStep)), (12, .c (.int .i64 ((a0.map cGStep).length : Int))), (13, .c (.int .i64 x.2))] []) (fun x => M_l13_Same_L1 a0 a1 x.1 x.2 = some r1) (fun x => x.1) ((((a0.map cGStep).length : Int)).toNat + 1, 0) h ?_ ?_
    · exact ca_0
    · intro x2 h; intro _; obtain ⟨k17, m3, h⟩ := succ_of (f := fun n => M_l13_Same_L1 a0 a1 n x2.2) rfl h; replace h : M_l13_Same_L1 a0 a1 (k17 + 1) x2.2 = some r1 := h; rw [M_l13_Same_L1] at h; refine aSq ?_; refine aRg ?_; intro _; refine dr ?_; refine aSq ?_; refine aCd ?_; intro _; refine spl h (fun c4 h => ?_) (fun c4 h => ?_)
      · refine aSk ?_; refine aSq ?_; refine aBk ?_; refine aSq ?_; refine aRg ?_; intro _; refine dr ?_; refine aSq ?_; refine aRg ?_; intro _; obtain ⟨y18, w5, q6, h⟩ := ix_ok h; refine Exists.intro (cGStep y18) (And.intro (map_at' w5) ?_); intro _; obtain ⟨y19, w7, q8, h⟩ := ix_ok h; refine Exists.intro (cGStep y19) (And.intro (map_at' w7) ?_); intro _; refine spf h (fun c9 h => ?_) (fun c9 h => ?_)
        · intro _; obtain ⟨y20, w10, q11, h⟩ := ix_ok h; refine Exists.intro (cGStep y20) (And.intro (map_at' w10) ?_); intro _; obtain ⟨y21, w12, q13, h⟩ := ix_ok h; refine Exists.intro (cGStep y21) (And.intro (map_at' w12) ?_); intro _; refine spf h (fun c14 h => ?_) (fun c14 h => ?_)
          · intro _; obtain ⟨y22, w15, q16, h⟩ := ix_ok h; refine Exists.intro (cGStep y22) (And.intro (map_at' w15) ?_); intro _; obtain ⟨y23, w17, q18, h⟩ := ix_ok h; refine Exists.intro (cGStep y23) (And.intro (map_at' w17) ?_); intro _; obtain ⟨z24, u19, h⟩ := ob1_ok h; refine cl rfl (A_b_Texts y22.Args y23.Args u19) ?_; intro _; refine pr ?_; refine pr ?_; refine pr ?_; refine pr ?_; refine pr ?_; refine pr ?_; refine dr ?_; refine aCd ?_; intro _; refine spl h (fun c20 h => ?_) (fun c20 h => ?_)
            · refine aSq ?_; refine aRg ?_; intro _; refine dr ?_; refine aRt ?_; intro _; obtain rfl := inj1 h; exact ca_0
            · refine aSk ?_; refine aRg ?_; intro _; refine dr ?_; refine ⟨(k17, (IntKind.i64.wrap (x2.2 + 1))), h, ltS m3, ?_⟩; exact ca_0
          · intro _; refine pr ?_; refine pr ?_; refine pr ?_; refine pr ?_; refine dr ?_; refine aCd ?_; intro _; refine litT ?_; refine aSq ?_; refine aRg ?_; intro _; refine dr ?_; refine aRt ?_; intro _; obtain rfl := inj1 h; exact ca_0
        · intro _; refine pr ?_; refine pr ?_; refine dr ?_; refine aCd ?_; intro _; refine litT ?_; refine aSq ?_; refine aRg ?_; intro _; refine dr ?_; refine aRt ?_; intro _; obtain rfl := inj1 h; exact ca_0
      · refine aEx ?_; refine aSq ?_; refine aRg ?_; intro _; refine dr ?_; refine aRt ?_; intro _; obtain rfl := inj1 h; exact ca_0
end Go.Proofs.YtljekaadbabhkaaDoor.Am
/- Contract of strings.Compare, as a model. -/
namespace Go.Proofs.YtljekaadbabhkaaDoor.Am
open Go.RowKit
def M_strings_Compare (s t : ByteArray) : Option Int := some (Lib.compareBytes s.data.toList t.data.toList)
theorem A_strings_Compare (s t : ByteArray) {r : Int} (h : M_strings_Compare s t = some r) : ACall cx 32 [.c (.string s), .c (.string t)] (.c (.int .i64 r)) := by
  obtain rfl := Option.some.inj h
  refine acall_gl Tryd.func32 rfl (by decide) (fun w O cargs ht hO hs hr => ?_)
  obtain ⟨a, b, rfl⟩ := args2 hs
  obtain rfl := rv_c (hr 0 _ a rfl rfl)
  obtain rfl := rv_c (hr 1 _ b rfl rfl)
  refine (Tryd.strings_Compare s t w).mono ?_
  rintro e w' ⟨rfl, rfl⟩
  exact ⟨_, rfl, .c _, Below.refl _ _⟩
end Go.Proofs.YtljekaadbabhkaaDoor.Am
/- Models printed by my decompiler, and the proofs that the code computes them. -/
namespace Go.Proofs.YtljekaadbabhkaaDoor.Am
open Go.RowKit
theorem zg_XDSrt {P : Prop} (h : P := by repeat (first | exact True.intro | exact gb_nil rfl rfl | refine gb_some ⟨rfl, rfl, rfl⟩ ?_ | refine And.intro ?_ ?_ | refine gw_ren rfl rfl rfl rfl rfl ?_ | refine gw_pren rfl rfl rfl rfl rfl | exact gw_thaw rfl rfl rfl | refine gw_tup ?_ | exact GWL.nil | exact gwll_nil | exact gw_c | exact GW.sl | exact GW.nil | exact gwll_same rfl FrI.h | refine GWL.cons ?_ ?_ | refine gwll_cons ?_ ?_ | (refine gw_own3 rfl rfl rfl FrI.h ?_ ?_ ?_) | exact GW.fr FrV.h | exact GW.fr (by assumption) | refine gw_agg ?_ | refine gw_clo ?_ | refine gw_ptr rfl rfl rfl ?_ | (refine gw_own rfl rfl rfl ?_ FrI.h ?_ ?_) | assumption | omega | rfl | (rw [List.length_map, ← List.length_append]; assumption) | (refine gwll_same ?_ FrI.h; (simp [cGStep, cS, cF] <;> fail)) | (rw [List.map_set]; refine gwll_set (by first | rfl | omega | simp) ?_ ?_) | refine gwll_set (by first | rfl | omega | simp) ?_ ?_ | (rw [List.map_replicate]; refine gwll_rep ?_) | refine gwll_rep ?_ | (rw [List.map_append]; refine gwll_append ?_ ?_) | refine gwll_append ?_ ?_ | (simp [cGStep, cS, cF, take_len_map] <;> fail) | (rw [List.drop_zero, List.take_of_length_le] <;> first | rfl | (simp [cGStep, cS, cF] <;> fail)) | (simp; omega) | (simp only [List.length_map, List.drop_zero, List.length_cons, List.length_nil, Nat.zero_add, Nat.add_zero] at *; omega))) : P := h
theorem ci_XDSrt {p K : Prop} (k : K) (h : p := by first | rfl | exact ⟨rfl, rfl⟩ | exact BW.fr FrV.h | (refine BW.fr ?_; assumption) | (refine ⟨rfl, ?_⟩; (simp [cGStep, cS, cF, take_len_map]; done)) | (refine RowK.same ?_ FrI.h; first | rfl | (simp [cGStep, cS, cF, take_len_map]; done)) | (refine row_part1 ?_; (repeat (first | exact BWL.nil | exact bwll_nil | exact bw_c | exact BW.sl | exact BW.nil | exact bwll_same rfl FrI.h | refine BWL.cons ?_ ?_ | refine bwll_cons ?_ ?_ | (refine bw_own3 rfl rfl rfl FrI.h ?_ ?_ ?_) | exact BW.fr FrV.h | exact BW.fr (by assumption) | refine bw_agg ?_ | refine bw_clo ?_ | refine bw_ptr rfl rfl rfl ?_ | (refine bw_own rfl rfl rfl ?_ FrI.h ?_ ?_) | assumption | omega | rfl | (rw [List.length_map, ← List.length_append]; assumption) | (refine bwll_same ?_ FrI.h; (simp [cGStep, cS, cF] <;> fail)) | (rw [List.map_set]; refine bwll_set (by first | rfl | omega | simp) ?_ ?_) | refine bwll_set (by first | rfl | omega | simp) ?_ ?_ | (rw [List.map_replicate]; refine bwll_rep ?_) | refine bwll_rep ?_ | (rw [List.map_append]; refine bwll_append ?_ ?_) | refine bwll_append ?_ ?_ | (simp [cGStep, cS, cF, take_len_map] <;> fail) | (rw [List.drop_zero, List.take_of_length_le] <;> first | rfl | (simp [cGStep, cS, cF] <;> fail)) | (simp; omega) | (simp only [List.length_map, List.drop_zero, List.length_cons, List.length_nil, Nat.zero_add, Nat.add_zero] at *; omega))); done) | ((repeat (first | exact BWL.nil | exact bwll_nil | exact bw_c | exact BW.sl | exact BW.nil | exact bwll_same rfl FrI.h | refine BWL.cons ?_ ?_ | refine bwll_cons ?_ ?_ | (refine bw_own3 rfl rfl rfl FrI.h ?_ ?_ ?_) | exact BW.fr FrV.h | exact BW.fr (by assumption) | refine bw_agg ?_ | refine bw_clo ?_ | refine bw_ptr rfl rfl rfl ?_ | (refine bw_own rfl rfl rfl ?_ FrI.h ?_ ?_) | assumption | omega | rfl | (rw [List.length_map, ← List.length_append]; assumption) | (refine bwll_same ?_ FrI.h; (simp [cGStep, cS, cF] <;> fail)) | (rw [List.map_set]; refine bwll_set (by first | rfl | omega | simp) ?_ ?_) | refine bwll_set (by first | rfl | omega | simp) ?_ ?_ | (rw [List.map_replicate]; refine bwll_rep ?_) | refine bwll_rep ?_ | (rw [List.map_append]; refine bwll_append ?_ ?_) | refine bwll_append ?_ ?_ | (simp [cGStep, cS, cF, take_len_map] <;> fail) | (rw [List.drop_zero, List.take_of_length_le] <;> first | rfl | (simp [cGStep, cS, cF] <;> fail)) | (simp; omega) | (simp only [List.length_map, List.drop_zero, List.length_cons, List.length_nil, Nat.zero_add, Nat.add_zero] at *; omega))); done) | (simp [cGStep, cS, cF, take_len_map]; done)) : p ∧ K := ⟨h, k⟩
theorem ca_XDSrt {P : Prop} (h : P := by repeat (first | exact True.intro | refine ci_XDSrt ?_)) : P := h
theorem pr_XDSrt {p K : Prop} (k : K) (h : p := by first | assumption | exact Int.natCast_nonneg _ | exact Nat.le_refl _ | exact Nat.zero_le _ | omega | (simp; done) | (simp; omega)) : p ∧ K := ⟨h, k⟩
theorem pl_XDSrt {p K : Prop} (k : K) (h : p := by first | rfl | exact List.length_map _ | (simp; done) | (simp; omega)) : p ∧ K := ⟨h, k⟩
theorem pe_XDSrt {p K : Prop} (k : K) (h : p := by first | omega | (simp; omega) | (simp only [List.length_map, List.length_cons, List.length_nil, List.length_append]; omega) | (simp only [List.length_map, List.drop_zero, List.length_cons, List.length_nil, Nat.zero_add, Nat.add_zero] at *; omega)) : p ∧ K := ⟨h, k⟩
theorem dr_XDSrt {b : Bool} {p K : Prop} (k : K) (h : b = true → p := by intro h; first | (cases h; done) | exact ⟨by kernel_rfl, by kernel_rfl⟩) : (b = true → p) ∧ K := ⟨h, k⟩
theorem cl_XDSrt {C : Cx} {n : Nat} {o : Oper} {τ : Nat → AV} {η : Nat → Ent} {f : FuncId} {os : Array Operand} {ats : Array TypeId} {r : AV} {args : List AV} {K : Foot → Prop} (ho : o.op = .call ⟨.value (.func f), os, ats⟩) (hc : ACall C f args r) (k : K ⟨r, [], []⟩)
    (hd : InB n o.dst := by exact Nat.le_of_ble_eq_true rfl) (hargs : os.toList.map (evA τ) = args := by first | rfl | (simp [cGStep, cS, cF]; done) | (repeat (first | exact rfl | refine cons_eq ?_ ?_ | exact sl_dt rfl))) (hfr : frs args := by repeat (first | exact trivial | exact fr1_eA _ | exact fr0_eA _ | exact fr1_fr (by assumption) | exact FrV.h | refine And.intro ?_ ?_)) (hr : fr1 r := by repeat (first | exact trivial | exact fr1_eA _ | exact fr0_eA _ | exact fr1_fr (by assumption) | exact FrV.h | refine And.intro ?_ ?_)) : ∃ f : Foot, LF C n o τ η f ∧ K f := ⟨_, lf_call ho hd hargs hc hfr hr, k⟩
theorem clc_XDSrt {C : Cx} {n : Nat} {o : Oper} {τ : Nat → AV} {η : Nat → Ent} {c : Operand} {os : Array Operand} {ats : Array TypeId} {r F : AV} {xs : List AV} {K : Foot → Prop} (ho : o.op = .call ⟨.value c, os, ats⟩) (hc : CCl C F xs r) (hfF : Fr F) (k : K ⟨r, [], []⟩)
    (hd : InB n o.dst := by exact Nat.le_of_ble_eq_true rfl) (hF : evA τ c = F := by rfl) (hargs : os.toList.map (evA τ) = xs := by first | rfl | (simp [cGStep, cS, cF]; done) | (repeat (first | exact rfl | refine cons_eq ?_ ?_ | exact sl_dt rfl))) (hfr : frs xs := by repeat (first | exact trivial | exact fr1_eA _ | exact fr0_eA _ | exact fr1_fr (by assumption) | exact FrV.h | refine And.intro ?_ ?_)) (hr : fr1 r := by repeat (first | exact trivial | exact fr1_eA _ | exact fr0_eA _ | exact fr1_fr (by assumption) | exact FrV.h | refine And.intro ?_ ?_)) : ∃ f : Foot, LF C n o τ η f ∧ K f := ⟨_, lf_clo ho hd hF hargs hc hfF hfr hr, k⟩
theorem clg_XDSrt {C : Cx} {n : Nat} {o : Oper} {τ : Nat → AV} {η : Nat → Ent} {f : FuncId} {os : Array Operand} {ats : Array TypeId} {r : AV} {xs ys : List AV} {bs bs' : List (Nat × Blk)} {ks : List Nat} {K : Foot → Prop} (ρ : List (Nat × Nat)) (fz : List Nat) (go nb : List (Nat × Ent)) (r' : AV) (ho : o.op = .call ⟨.value (.func f), os, ats⟩) (hargs : os.toList.map (evA τ) = xs)
    (hc : ACallG C f ys bs ks r bs') (k : K ⟨r', go ++ nb, []⟩) (hd : InB n o.dst := by exact Nat.le_of_ble_eq_true rfl) (hok : okC ρ fz bs ks bs' (idsE go) = true := by rfl) (hgo : allUs η go := by repeat (first | exact trivial | refine And.intro rfl ?_)) (hgl : ltUs n go := by repeat (first | exact trivial | refine And.intro (Nat.le_of_ble_eq_true rfl) ?_))
    (hw : GWL η (fE bs) (lk ρ) (fun i => inB fz i = true) (fun i => inB (keys bs) i = true) xs ys := by exact zg_XDSrt) (hb : GBL η (fE bs) (lk ρ) (fun i => inB fz i = true) (fun i => inB (keys bs) i = true) bs := by exact zg_XDSrt)
    (hr : GW (fE bs') (updAll η (go ++ nb)) (lk (backN ρ bs')) (fun _ => False) (fun i => inB (idsE nb) i = true) r r' := by exact zg_XDSrt)
    (hnb : nbOk n η (updAll η (go ++ nb)) ρ ks (fE bs') (lk (backN ρ bs')) (fun i => inB (idsE nb) i = true) bs' nb := by repeat (first | exact True.intro | rfl | exact Nat.le_of_ble_eq_true rfl | exact gb_nil rfl rfl | refine gb_some ⟨rfl, rfl, rfl⟩ ?_ | refine And.intro ?_ ?_ | refine gw_ren rfl rfl rfl rfl rfl ?_ | refine gw_pren rfl rfl rfl rfl rfl | exact gw_thaw rfl rfl rfl | refine gw_tup ?_ | exact GWL.nil | exact gwll_nil | exact gw_c | exact GW.sl | exact GW.nil | exact gwll_same rfl FrI.h | refine GWL.cons ?_ ?_ | refine gwll_cons ?_ ?_ | (refine gw_own3 rfl rfl rfl FrI.h ?_ ?_ ?_) | exact GW.fr FrV.h | exact GW.fr (by assumption) | refine gw_agg ?_ | refine gw_clo ?_ | refine gw_ptr rfl rfl rfl ?_ | (refine gw_own rfl rfl rfl ?_ FrI.h ?_ ?_) | assumption | omega | rfl | (rw [List.length_map, ← List.length_append]; assumption) | (refine gwll_same ?_ FrI.h; (simp [cGStep, cS, cF] <;> fail)) | (rw [List.map_set]; refine gwll_set (by first | rfl | omega | simp) ?_ ?_) | refine gwll_set (by first | rfl | omega | simp) ?_ ?_ | (rw [List.map_replicate]; refine gwll_rep ?_) | refine gwll_rep ?_ | (rw [List.map_append]; refine gwll_append ?_ ?_) | refine gwll_append ?_ ?_ | (simp [cGStep, cS, cF, take_len_map] <;> fail) | (rw [List.drop_zero, List.take_of_length_le] <;> first | rfl | (simp [cGStep, cS, cF] <;> fail)) | (simp; omega) | (simp only [List.length_map, List.drop_zero, List.length_cons, List.length_nil, Nat.zero_add, Nat.add_zero] at *; omega))) : ∃ f : Foot, LF C n o τ η f ∧ K f := ⟨_, lf_callG ρ fz go nb ho hd hargs hc hok hgo hgl hw hb hr hnb, k⟩
def M_l13_long_L1 (y57 : GStep) : Nat → Int → Int → Option (Int)
  | 0, _, _ => none
  | k64 + 1, v62, v63 =>
    sel (decide (v63 < ((y57.Args.map cS).length : Int)))
     (ix y57.Args v63 (fun y65 =>
       M_l13_long_L1 y57 k64 (IntKind.i64.wrap (v62 + (y65.size : Int))) (IntKind.i64.wrap (v63 + 1))))
     (some v62)
def M_l13_long_L2 (a0 : List GStep) : Nat → Int → Int → Option (Bool)
  | 0, _, _ => none
  | k45 + 1, v43, v44 =>
    sel (decide (v44 < ((a0.map cGStep).length : Int)))
     (ob1 (ix a0 v44 (fun y57 =>
        M_l13_long_L1 y57 ((((y57.Args.map cS).length : Int)).toNat + 1) (IntKind.i64.wrap (v43 + (IntKind.i64.wrap ((y57.Name.size : Int) + ((y57.Args.map cS).length : Int))))) 0) : Option (Int))
       (fun v55 => M_l13_long_L2 a0 k45 v55 (IntKind.i64.wrap (v44 + 1))))
     (some (decide (v43 > 3000)))
def M_l13_long (a0 : List GStep) : Option (Bool) :=
  M_l13_long_L2 a0 ((((a0.map cGStep).length : Int)).toNat + 1) ((a0.map cGStep).length : Int) 0
set_option maxHeartbeats 16000000 in
set_option maxRecDepth 100000 in
theorem A_l13_long (a0 : List GStep) {r1 : Bool} (h : M_l13_long a0 = some r1) : ACall cx 15 [.sl 3 (a0.map cGStep)] (.c (.bool r1)) := by
  refine aOf Tryd.func15 rfl (by decide) rfl (Nat.le_of_ble_eq_true rfl) ?_; intro _; unfold M_l13_long at h; refine aSq ?_; refine aRg ?_; intro _; refine dr_XDSrt ?_; refine aSq ?_; refine aRg ?_; intro _; refine dr_XDSrt ?_; refine aSq ?_; refine aSq ?_; refine aRg ?_; intro _; refine dr_XDSrt ?_; refine aBk ?_; refine awp_loop (α := Nat × Int × Int) (fun x => mkS 40 [(3, .c (.int .i64 x.2.1)), (10, .sl 3 (a0.map cGStep)), (11, .c (.int .i64 ((a0.map cGStep).length : Int))), (12, .c (.int .i64 x.2.2))] []) (fun x => M_l13_long_L2 a0 x.1 x.2.1 x.2.2 = some r1) (fun x => x.1) ((((a0.map cGStep).length : Int)).toNat + 1, ((a0.map cGStep).length : Int), 0) h ?_ ?_
  · exact ca_XDSrt
  · intro x1 h; intro _; obtain ⟨k45, m2, h⟩ := succ_of (f := fun n => M_l13_long_L2 a0 n x1.2.1 x1.2.2) rfl h; replace h : M_l13_long_L2 a0 (k45 + 1) x1.2.1 x1.2.2 = some r1 := h; rw [M_l13_long_L2] at h; refine aSq ?_; refine aRg ?_; intro _; refine dr_XDSrt ?_; refine aSq ?_; refine aCd ?_; intro _; refine spl h (fun c3 h => ?_) (fun c3 h => ?_)
    · refine aSk ?_; obtain ⟨o4, h, hK5⟩ := ob1_ok h; refine awp_cut (α := Int) (fun v55 => mkS 40 [(3, .c (.int .i64 v55)), (10, .sl 3 (a0.map cGStep)), (11, .c (.int .i64 ((a0.map cGStep).length : Int))), (12, .c (.int .i64 x1.2.2))] []) (fun v => o4 = v) ?_ ?_
      · refine aBk ?_; refine aSq ?_; refine aRg ?_; intro _; obtain ⟨y57, w6, q7, h⟩ := ix_ok h; refine Exists.intro (cGStep y57) (And.intro (map_at' w6) ?_); intro _; refine pr_XDSrt ?_; refine dr_XDSrt ?_; refine aSq ?_; refine aRg ?_; intro _; refine dr_XDSrt ?_; refine aSq ?_; refine aRg ?_; intro _; refine dr_XDSrt ?_; refine aBk ?_; refine awp_loop (α := Nat × Int × Int) (fun x => mkS 40 [(3, .c (.int .i64 x.2.1)), (10, .sl 3 (a0.map cGStep)), (11, .c (.int .i64 ((a0.map cGStep).length : Int))), (12, .c (.int .i64 x1.2.2)), (26, .sl 1 (y57.Args.map cS)), (27, .c (.int .i64 ((y57.Args.map cS).length : Int))), (28, .c (.int .i64 x.2.2))] []) (fun x => M_l13_long_L1 y57 x.1 x.2.1 x.2.2 = some o4) (fun x => x.1) ((((y57.Args.map cS).length : Int)).toNat + 1, (IntKind.i64.wrap (x1.2.1 + (IntKind.i64.wrap ((y57.Name.size : Int) + ((y57.Args.map cS).length : Int))))), 0) h ?_ ?_
        · exact ca_XDSrt
        · intro x8 h; intro _; obtain ⟨k64, m9, h⟩ := succ_of (f := fun n => M_l13_long_L1 y57 n x8.2.1 x8.2.2) rfl h; replace h : M_l13_long_L1 y57 (k64 + 1) x8.2.1 x8.2.2 = some o4 := h; rw [M_l13_long_L1] at h; refine aSq ?_; refine aRg ?_; intro _; refine dr_XDSrt ?_; refine aSq ?_; refine aCd ?_; intro _; refine spl h (fun c10 h => ?_) (fun c10 h => ?_)
          · refine aSk ?_; refine aSq ?_; refine aBk ?_; refine aSq ?_; refine aRg ?_; intro _; obtain ⟨y65, w11, q12, h⟩ := ix_ok h; refine Exists.intro (cS y65) (And.intro (map_at' w11) ?_); intro _; refine pr_XDSrt ?_; refine dr_XDSrt ?_; refine aRg ?_; intro _; refine dr_XDSrt ?_; refine aRg ?_; intro _; refine dr_XDSrt ?_; refine ⟨(k64, (IntKind.i64.wrap (x8.2.1 + (y65.size : Int))), (IntKind.i64.wrap (x8.2.2 + 1))), h, ltS m9, ?_⟩; exact ca_XDSrt
          · refine aEx ?_; refine ⟨x8.2.1, (Option.some.inj h).symm, ?_⟩; exact ca_XDSrt
      · rintro v55 ho; have ho := ho.symm; subst ho; intro _; replace h := hK5; refine aRg ?_; intro _; refine dr_XDSrt ?_; refine ⟨(k45, v55, (IntKind.i64.wrap (x1.2.2 + 1))), h, ltS m2, ?_⟩; exact ca_XDSrt
    · refine aEx ?_; refine aSq ?_; refine aRg ?_; intro _; refine dr_XDSrt ?_; refine aRt ?_; intro _; obtain rfl := inj1 h; exact ca_XDSrt
def M_s_insertionSortCmpFunc_Step_L1 (a1 : Int) (a3 : GStep → GStep → Option Int) : Nat → Int → (List GStep) → Option (List GStep)
  | 0, _, _ => none
  | k364 + 1, v362, v363 =>
    ob1 (sel (decide (v362 > a1))
      (ixn v363 ((v362).toNat) (fun y377 =>
        ixn v363 (((IntKind.i64.wrap (v362 - 1))).toNat) (fun y378 =>
         ob1 (a3 y377 y378) (fun z379 =>
          grd (0 ≤ v362) (grd (v362 < ((v363.length : Nat) : Int)) (grd (0 ≤ (IntKind.i64.wrap (v362 - 1))) (grd ((IntKind.i64.wrap (v362 - 1)) < ((v363.length : Nat) : Int)) (sel (decide (z379 < 0))
           (some (.inl (y377.At, y377.Name, y377.Args, y378.At, y378.Name, y378.Args, z379, (decide (z379 < 0)))))
           (some (.inr ()))))))))))
      (some (.inr ())) : Option ((Int × ByteArray × (List ByteArray) × Int × ByteArray × (List ByteArray) × Int × Bool) ⊕ Unit))
     (osum
     (fun (_, _, _, _, _, _, _, _) => ixn v363 (((IntKind.i64.wrap (v362 - 1))).toNat) (fun y380 =>
        ixn v363 ((v362).toNat) (fun y381 =>
         ixn v363 ((v362).toNat) (fun _ =>
          ixn (v363.set ((v362).toNat) y380) (((IntKind.i64.wrap (v362 - 1))).toNat) (fun _ =>
           grd (0 ≤ (IntKind.i64.wrap (v362 - 1))) (grd ((IntKind.i64.wrap (v362 - 1)) < ((v363.length : Nat) : Int)) (grd (0 ≤ v362) (grd (v362 < ((v363.length : Nat) : Int)) (M_s_insertionSortCmpFunc_Step_L1 a1 a3 k364 (IntKind.i64.wrap (v362 - 1)) ((v363.set ((v362).toNat) y380).set (((IntKind.i64.wrap (v362 - 1))).toNat) y381))))))))))
     (fun _ => some v363))
def M_s_insertionSortCmpFunc_Step_L2 (a1 : Int) (a2 : Int) (a3 : GStep → GStep → Option Int) (g : Nat) : Nat → Int → (List GStep) → Option (List GStep)
  | 0, _, _ => none
  | k257 + 1, v255, v256 =>
    sel (decide (v255 < a2))
     (ob1 (M_s_insertionSortCmpFunc_Step_L1 a1 a3 g v255 v256 : Option (List GStep))
       (fun v320 => M_s_insertionSortCmpFunc_Step_L2 a1 a2 a3 g k257 (IntKind.i64.wrap (v255 + 1)) v320))
     (some v256)
def M_s_insertionSortCmpFunc_Step (g : Nat) (a0 : List GStep) (a1 : Int) (a2 : Int) (a3 : GStep → GStep → Option Int) : Option (List GStep) :=
  M_s_insertionSortCmpFunc_Step_L2 a1 a2 a3 g g (IntKind.i64.wrap (a1 + 1)) a0
set_option maxHeartbeats 16000000 in
set_option maxRecDepth 100000 in
theorem A_s_insertionSortCmpFunc_Step (g : Nat) (a0 : List GStep) (a1 : Int) (a2 : Int) (a3 : GStep → GStep → Option Int) (Fa3 : AV) (hFa3 : Fr Fa3) (ea3 : ∃ f fs cap, Fa3 = .clo (.func f) fs cap) (ha3 : ∀ (x0 : GStep) (x1 : GStep) (y0 : Int), a3 x0 x1 = some y0 → CCl cx Fa3 [.agg [.c (.int .i64 x0.At), .c (.string x0.Name), .sl 1 (x0.Args.map cS)], .agg [.c (.int .i64 x1.At), .c (.string x1.Name), .sl 1 (x1.Args.map cS)]] (.c (.int .i64 y0))) {r1 : List GStep} (h : M_s_insertionSortCmpFunc_Step g a0 a1 a2 a3 = some r1) : ACallG cx 80 [.own 53 0 0 a0.length, .c (.int .i64 a1), .c (.int .i64 a2), Fa3] [(53, ⟨37, 3, false, a0.map cGStep⟩)] [53] (.tup []) [(53, ⟨37, 3, false, r1.map cGStep⟩)] := by
  obtain ⟨fa3, sa3, qa3, rfl⟩ := ea3; refine acallg_of 57 Tryd.func80 rfl (by decide) rfl (Nat.le_of_ble_eq_true rfl) rfl rfl ?_; intro _; unfold M_s_insertionSortCmpFunc_Step at h; refine aSq ?_; refine aRg ?_; intro _; refine dr_XDSrt ?_; refine aBk ?_; refine awp_loop (α := Nat × Int × (List GStep)) (fun x => mkG 53 57 [(0, .own 53 0 0 x.2.2.length), (1, .c (.int .i64 a1)), (2, .c (.int .i64 a2)), (3, .clo (.func fa3) sa3 qa3), (8, .c (.int .i64 x.2.1))] [(53, ⟨37, 3, false, x.2.2.map cGStep⟩)]) (fun x => M_s_insertionSortCmpFunc_Step_L2 a1 a2 a3 g x.1 x.2.1 x.2.2 = some r1) (fun x => x.1) (g, (IntKind.i64.wrap (a1 + 1)), a0) h ?_ ?_
  · exact ca_XDSrt
  · intro x1 h; intro _; obtain ⟨k257, m2, h⟩ := succ_of (f := fun n => M_s_insertionSortCmpFunc_Step_L2 a1 a2 a3 g n x1.2.1 x1.2.2) rfl h; replace h : M_s_insertionSortCmpFunc_Step_L2 a1 a2 a3 g (k257 + 1) x1.2.1 x1.2.2 = some r1 := h; rw [M_s_insertionSortCmpFunc_Step_L2] at h; refine aSq ?_; refine aSq ?_; refine aRg ?_; intro _; refine dr_XDSrt ?_; refine aCd ?_; intro _; refine spl h (fun c3 h => ?_) (fun c3 h => ?_)
    · refine aSk ?_; obtain ⟨o4, h, hK5⟩ := ob1_ok h; refine awp_cut (α := List GStep) (fun v320 => mkG 53 57 [(0, .own 53 0 0 v320.length), (1, .c (.int .i64 a1)), (2, .c (.int .i64 a2)), (3, .clo (.func fa3) sa3 qa3), (8, .c (.int .i64 x1.2.1))] [(53, ⟨37, 3, false, v320.map cGStep⟩)]) (fun v => o4 = v) ?_ ?_
      · refine aBk ?_; refine aSq ?_; refine aRg ?_; intro _; refine dr_XDSrt ?_; refine aBk ?_; refine awp_loop (α := Nat × Int × (List GStep)) (fun x => mkG 53 57 [(0, .own 53 0 0 x.2.2.length), (1, .c (.int .i64 a1)), (2, .c (.int .i64 a2)), (3, .clo (.func fa3) sa3 qa3), (8, .c (.int .i64 x1.2.1)), (9, .c (.int .i64 x.2.1))] [(53, ⟨37, 3, false, x.2.2.map cGStep⟩)]) (fun x => M_s_insertionSortCmpFunc_Step_L1 a1 a3 x.1 x.2.1 x.2.2 = some o4) (fun x => x.1) (g, x1.2.1, x1.2.2) h ?_ ?_
        · exact ca_XDSrt
        · intro x6 h; intro _; obtain ⟨k364, m7, h⟩ := succ_of (f := fun n => M_s_insertionSortCmpFunc_Step_L1 a1 a3 n x6.2.1 x6.2.2) rfl h; replace h : M_s_insertionSortCmpFunc_Step_L1 a1 a3 (k364 + 1) x6.2.1 x6.2.2 = some o4 := h; rw [M_s_insertionSortCmpFunc_Step_L1] at h; obtain ⟨o8, h, hK9⟩ := ob1_ok h; refine awp_cut (α := Int × ByteArray × (List ByteArray) × Int × ByteArray × (List ByteArray) × Int × Bool) (fun (v368, v369, v370, v371, v372, v373, v374, v375) => mkG 53 57 [(0, .own 53 0 0 x6.2.2.length), (1, .c (.int .i64 a1)), (2, .c (.int .i64 a2)), (3, .clo (.func fa3) sa3 qa3), (8, .c (.int .i64 x1.2.1)), (9, .c (.int .i64 x6.2.1)), (22, .clo (.func fa3) sa3 qa3), (23, .own 53 0 0 x6.2.2.length), (24, .c (.int .i64 x6.2.1)), (25, .ptr 53 0 ((x6.2.1).toNat) 0), (26, .agg [.c (.int .i64 v368), .c (.string v369), .sl 1 (v370.map cS)]), (27, .own 53 0 0 x6.2.2.length), (28, .c (.int .i64 x6.2.1)), (29, .c (.int .i64 (IntKind.i64.wrap (x6.2.1 - 1)))), (30, .ptr 53 0 (((IntKind.i64.wrap (x6.2.1 - 1))).toNat) 0), (31, .agg [.c (.int .i64 v371), .c (.string v372), .sl 1 (v373.map cS)]), (32, .c (.int .i64 v374)), (33, .c (.bool v375))] [(53, ⟨37, 3, false, x6.2.2.map cGStep⟩)]) (fun v => o8 = (.inl v)) ?_ ?_
          · refine aSq ?_; refine aRg ?_; intro _; refine spl h (fun c10 h => ?_) (fun c10 h => ?_)
            · intro _; obtain ⟨y377, w11, h⟩ := ixn_ok h; refine Exists.intro (cGStep y377) (And.intro (by first | exact map_at' w11 | (have w := map_at' (f := cGStep) w11; simpa [cGStep] using w)) ?_); intro _; obtain ⟨y378, w12, h⟩ := ixn_ok h; refine Exists.intro (cGStep y378) (And.intro (by first | exact map_at' w12 | (have w := map_at' (f := cGStep) w12; simpa [cGStep] using w)) ?_); intro _; obtain ⟨z379, u13, h⟩ := ob1_ok h; refine clc_XDSrt rfl (ha3 _ _ _ u13) hFa3 ?_; intro _; obtain ⟨q14, h⟩ := grd_ok h; obtain ⟨q15, h⟩ := grd_ok h; obtain ⟨q16, h⟩ := grd_ok h; obtain ⟨q17, h⟩ := grd_ok h; refine pr_XDSrt ?_; refine pr_XDSrt ?_; refine pr_XDSrt ?_; refine pr_XDSrt ?_; refine dr_XDSrt ?_; refine aCd ?_; intro _; refine spl h (fun c18 h => ?_) (fun c18 h => ?_)
              · refine aSk ?_; refine ⟨(y377.At, y377.Name, y377.Args, y378.At, y378.Name, y378.Args, z379, (decide (z379 < 0))), (Option.some.inj h).symm, ?_⟩; exact ca_XDSrt
              · refine aEx ?_; have j19 := Option.some.inj h; subst j19; replace h := (osum_r hK9); refine ⟨x6.2.2, (Option.some.inj h).symm, ?_⟩; exact ca_XDSrt
            · intro _; refine dr_XDSrt ?_; refine aCd ?_; intro _; refine litF ?_; refine aEx ?_; have j20 := Option.some.inj h; subst j20; replace h := (osum_r hK9); refine ⟨x6.2.2, (Option.some.inj h).symm, ?_⟩; exact ca_XDSrt
          · rintro ⟨v368, v369, v370, v371, v372, v373, v374, v375⟩ ho; have ho := ho.symm; subst ho; intro _; replace h := (osum_l hK9); refine aSq ?_; refine aBk ?_; refine aRg ?_; intro _; obtain ⟨y380, w21, h⟩ := ixn_ok h; refine Exists.intro (cGStep y380) (And.intro (by first | exact map_at' w21 | (have w := map_at' (f := cGStep) w21; simpa [cGStep] using w)) ?_); intro _; obtain ⟨y381, w22, h⟩ := ixn_ok h; refine Exists.intro (cGStep y381) (And.intro (by first | exact map_at' w22 | (have w := map_at' (f := cGStep) w22; simpa [cGStep] using w)) ?_); intro _; obtain ⟨y382, w23, h⟩ := ixn_ok h; refine Exists.intro (cGStep y382) (And.intro (by first | exact map_at' w23 | (have w := map_at' (f := cGStep) w23; simpa [cGStep] using w)) ?_); intro _; obtain ⟨y383, w24, h⟩ := ixn_ok h; refine Exists.intro (cGStep y383) (And.intro (by first | exact map_at' w24 | (have w := map_at' (f := cGStep) w24; simpa [cGStep] using w)) ?_); intro _; obtain ⟨q25, h⟩ := grd_ok h; obtain ⟨q26, h⟩ := grd_ok h; obtain ⟨q27, h⟩ := grd_ok h; obtain ⟨q28, h⟩ := grd_ok h; refine pr_XDSrt ?_; refine pr_XDSrt ?_; refine pr_XDSrt ?_; refine pr_XDSrt ?_; refine pr_XDSrt ?_; refine pr_XDSrt ?_; refine pr_XDSrt ?_; refine pr_XDSrt ?_; refine dr_XDSrt ?_; refine aRg ?_; intro _; refine dr_XDSrt ?_; refine ⟨(k364, (IntKind.i64.wrap (x6.2.1 - 1)), ((x6.2.2.set ((x6.2.1).toNat) y380).set (((IntKind.i64.wrap (x6.2.1 - 1))).toNat) y381)), h, ltS m7, ?_⟩; exact ca_XDSrt
      · rintro v320 ho; have ho := ho.symm; subst ho; intro _; replace h := hK5; refine aRg ?_; intro _; refine dr_XDSrt ?_; refine ⟨(k257, (IntKind.i64.wrap (x1.2.1 + 1)), v320), h, ltS m2, ?_⟩; exact ca_XDSrt
    · refine aEx ?_; intro _; obtain rfl := inj1 h; all_goals (refine Exists.intro [] (And.intro rfl (And.intro ?_ ?_))); all_goals (exact zg_XDSrt)
def M_s_swapRangeCmpFunc_Step_L1 (a1 : Int) (a2 : Int) (a3 : Int) : Nat → Int → (List GStep) → Option (List GStep)
  | 0, _, _ => none
  | k13 + 1, v11, v12 =>
    sel (decide (v11 < a3))
     (ixn v12 (((IntKind.i64.wrap (a2 + v11))).toNat) (fun y14 =>
       ixn v12 (((IntKind.i64.wrap (a1 + v11))).toNat) (fun y15 =>
        ixn v12 (((IntKind.i64.wrap (a1 + v11))).toNat) (fun _ =>
         ixn (v12.set (((IntKind.i64.wrap (a1 + v11))).toNat) y14) (((IntKind.i64.wrap (a2 + v11))).toNat) (fun _ =>
          grd (0 ≤ (IntKind.i64.wrap (a2 + v11))) (grd ((IntKind.i64.wrap (a2 + v11)) < ((v12.length : Nat) : Int)) (grd (0 ≤ (IntKind.i64.wrap (a1 + v11))) (grd ((IntKind.i64.wrap (a1 + v11)) < ((v12.length : Nat) : Int)) (M_s_swapRangeCmpFunc_Step_L1 a1 a2 a3 k13 (IntKind.i64.wrap (v11 + 1)) ((v12.set (((IntKind.i64.wrap (a1 + v11))).toNat) y14).set (((IntKind.i64.wrap (a2 + v11))).toNat) y15))))))))))
     (some v12)
def M_s_swapRangeCmpFunc_Step (g : Nat) (a0 : List GStep) (a1 : Int) (a2 : Int) (a3 : Int) (_ : GStep → GStep → Option Int) : Option (List GStep) :=
  M_s_swapRangeCmpFunc_Step_L1 a1 a2 a3 g 0 a0
set_option maxHeartbeats 16000000 in
set_option maxRecDepth 100000 in
theorem A_s_swapRangeCmpFunc_Step (g : Nat) (a0 : List GStep) (a1 : Int) (a2 : Int) (a3 : Int) (a4 : GStep → GStep → Option Int) (Fa4 : AV) (hFa4 : Fr Fa4) (ea4 : ∃ f fs cap, Fa4 = .clo (.func f) fs cap) (ha4 : ∀ (x0 : GStep) (x1 : GStep) (y0 : Int), a4 x0 x1 = some y0 → CCl cx Fa4 [.agg [.c (.int .i64 x0.At), .c (.string x0.Name), .sl 1 (x0.Args.map cS)], .agg [.c (.int .i64 x1.At), .c (.string x1.Name), .sl 1 (x1.Args.map cS)]] (.c (.int .i64 y0))) {r1 : List GStep} (h : M_s_swapRangeCmpFunc_Step g a0 a1 a2 a3 a4 = some r1) : ACallG cx 107 [.own 38 0 0 a0.length, .c (.int .i64 a1), .c (.int .i64 a2), .c (.int .i64 a3), Fa4] [(38, ⟨37, 3, false, a0.map cGStep⟩)] [38] (.tup []) [(38, ⟨37, 3, false, r1.map cGStep⟩)] := by
  obtain ⟨fa4, sa4, qa4, rfl⟩ := ea4; refine acallg_of 43 Tryd.func107 rfl (by decide) rfl (Nat.le_of_ble_eq_true rfl) rfl rfl ?_; intro _; unfold M_s_swapRangeCmpFunc_Step at h; refine aSq ?_; refine aRg ?_; intro _; refine dr_XDSrt ?_; refine aBk ?_; refine awp_loop (α := Nat × Int × (List GStep)) (fun x => mkG 38 43 [(0, .own 38 0 0 x.2.2.length), (1, .c (.int .i64 a1)), (2, .c (.int .i64 a2)), (3, .c (.int .i64 a3)), (10, .c (.int .i64 x.2.1))] [(38, ⟨37, 3, false, x.2.2.map cGStep⟩)]) (fun x => M_s_swapRangeCmpFunc_Step_L1 a1 a2 a3 x.1 x.2.1 x.2.2 = some r1) (fun x => x.1) (g, 0, a0) h ?_ ?_
  · exact ca_XDSrt
  · intro x1 h; intro _; obtain ⟨k13, m2, h⟩ := succ_of (f := fun n => M_s_swapRangeCmpFunc_Step_L1 a1 a2 a3 n x1.2.1 x1.2.2) rfl h; replace h : M_s_swapRangeCmpFunc_Step_L1 a1 a2 a3 (k13 + 1) x1.2.1 x1.2.2 = some r1 := h; rw [M_s_swapRangeCmpFunc_Step_L1] at h; refine aSq ?_; refine aSq ?_; refine aRg ?_; intro _; refine dr_XDSrt ?_; refine aCd ?_; intro _; refine spl h (fun c3 h => ?_) (fun c3 h => ?_)
    · refine aSk ?_; refine aSq ?_; refine aBk ?_; refine aRg ?_; intro _; obtain ⟨y14, w4, h⟩ := ixn_ok h; refine Exists.intro (cGStep y14) (And.intro (by first | exact map_at' w4 | (have w := map_at' (f := cGStep) w4; simpa [cGStep] using w)) ?_); intro _; obtain ⟨y15, w5, h⟩ := ixn_ok h; refine Exists.intro (cGStep y15) (And.intro (by first | exact map_at' w5 | (have w := map_at' (f := cGStep) w5; simpa [cGStep] using w)) ?_); intro _; obtain ⟨y16, w6, h⟩ := ixn_ok h; refine Exists.intro (cGStep y16) (And.intro (by first | exact map_at' w6 | (have w := map_at' (f := cGStep) w6; simpa [cGStep] using w)) ?_); intro _; obtain ⟨y17, w7, h⟩ := ixn_ok h; refine Exists.intro (cGStep y17) (And.intro (by first | exact map_at' w7 | (have w := map_at' (f := cGStep) w7; simpa [cGStep] using w)) ?_); intro _; obtain ⟨q8, h⟩ := grd_ok h; obtain ⟨q9, h⟩ := grd_ok h; obtain ⟨q10, h⟩ := grd_ok h; obtain ⟨q11, h⟩ := grd_ok h; refine pr_XDSrt ?_; refine pr_XDSrt ?_; refine pr_XDSrt ?_; refine pr_XDSrt ?_; refine pr_XDSrt ?_; refine pr_XDSrt ?_; refine pr_XDSrt ?_; refine pr_XDSrt ?_; refine dr_XDSrt ?_; refine aRg ?_; intro _; refine dr_XDSrt ?_; refine ⟨(k13, (IntKind.i64.wrap (x1.2.1 + 1)), ((x1.2.2.set (((IntKind.i64.wrap (a1 + x1.2.1))).toNat) y14).set (((IntKind.i64.wrap (a2 + x1.2.1))).toNat) y15)), h, ltS m2, ?_⟩; exact ca_XDSrt
    · refine aEx ?_; intro _; obtain rfl := inj1 h; all_goals (refine Exists.intro [] (And.intro rfl (And.intro ?_ ?_))); all_goals (exact zg_XDSrt)
def M_s_rotateCmpFunc_Step_L1 (a2 : Int) (a4 : GStep → GStep → Option Int) (g : Nat) : Nat → Int → Int → (List GStep) → Option (Int × (List GStep))
  | 0, _, _, _ => none
  | k27 + 1, v24, v25, v26 =>
    sel (v24 != v25)
     (sel (decide (v24 > v25))
       (ob1 (M_s_swapRangeCmpFunc_Step g v26 (IntKind.i64.wrap (a2 - v24)) a2 v25 a4) (fun c28 =>
         grd (c28.length = v26.length) (M_s_rotateCmpFunc_Step_L1 a2 a4 g k27 (IntKind.i64.wrap (v24 - v25)) v25 c28)))
       (ob1 (M_s_swapRangeCmpFunc_Step g v26 (IntKind.i64.wrap (a2 - v24)) (IntKind.i64.wrap ((IntKind.i64.wrap (a2 + v25)) - v24)) v24 a4) (fun c29 =>
         grd (c29.length = v26.length) (M_s_rotateCmpFunc_Step_L1 a2 a4 g k27 v24 (IntKind.i64.wrap (v25 - v24)) c29))))
     (some (v24, v26))
def M_s_rotateCmpFunc_Step (g : Nat) (a0 : List GStep) (a1 : Int) (a2 : Int) (a3 : Int) (a4 : GStep → GStep → Option Int) : Option (List GStep) :=
  ob1 (M_s_rotateCmpFunc_Step_L1 a2 a4 g g (IntKind.i64.wrap (a2 - a1)) (IntKind.i64.wrap (a3 - a2)) a0 : Option (Int × (List GStep)))
   (fun (v14, v15) => ob1 (M_s_swapRangeCmpFunc_Step g v15 (IntKind.i64.wrap (a2 - v14)) a2 v14 a4) (fun c30 =>
      grd (c30.length = v15.length) (some c30)))
set_option maxHeartbeats 16000000 in
set_option maxRecDepth 100000 in
theorem A_s_rotateCmpFunc_Step (g : Nat) (a0 : List GStep) (a1 : Int) (a2 : Int) (a3 : Int) (a4 : GStep → GStep → Option Int) (Fa4 : AV) (hFa4 : Fr Fa4) (ea4 : ∃ f fs cap, Fa4 = .clo (.func f) fs cap) (ha4 : ∀ (x0 : GStep) (x1 : GStep) (y0 : Int), a4 x0 x1 = some y0 → CCl cx Fa4 [.agg [.c (.int .i64 x0.At), .c (.string x0.Name), .sl 1 (x0.Args.map cS)], .agg [.c (.int .i64 x1.At), .c (.string x1.Name), .sl 1 (x1.Args.map cS)]] (.c (.int .i64 y0))) {r1 : List GStep} (h : M_s_rotateCmpFunc_Step g a0 a1 a2 a3 a4 = some r1) : ACallG cx 95 [.own 58 0 0 a0.length, .c (.int .i64 a1), .c (.int .i64 a2), .c (.int .i64 a3), Fa4] [(58, ⟨37, 3, false, a0.map cGStep⟩)] [58] (.tup []) [(58, ⟨37, 3, false, r1.map cGStep⟩)] := by
  obtain ⟨fa4, sa4, qa4, rfl⟩ := ea4; refine acallg_of 63 Tryd.func95 rfl (by decide) rfl (Nat.le_of_ble_eq_true rfl) rfl rfl ?_; intro _; unfold M_s_rotateCmpFunc_Step at h; refine aSq ?_; refine aRg ?_; intro _; refine dr_XDSrt ?_; refine aSq ?_; refine aRg ?_; intro _; refine dr_XDSrt ?_; obtain ⟨o1, h, hK2⟩ := ob1_ok h; refine awp_cut (α := Int × (List GStep)) (fun (v14, v15) => mkG 58 63 [(0, .own 58 0 0 v15.length), (2, .c (.int .i64 a2)), (4, .clo (.func fa4) sa4 qa4), (10, .c (.int .i64 v14))] [(58, ⟨37, 3, false, v15.map cGStep⟩)]) (fun v => o1 = v) ?_ ?_
  · refine aBk ?_; refine awp_loop (α := Nat × Int × Int × (List GStep)) (fun x => mkG 58 63 [(0, .own 58 0 0 x.2.2.2.length), (2, .c (.int .i64 a2)), (4, .clo (.func fa4) sa4 qa4), (10, .c (.int .i64 x.2.1)), (11, .c (.int .i64 x.2.2.1))] [(58, ⟨37, 3, false, x.2.2.2.map cGStep⟩)]) (fun x => M_s_rotateCmpFunc_Step_L1 a2 a4 g x.1 x.2.1 x.2.2.1 x.2.2.2 = some o1) (fun x => x.1) (g, (IntKind.i64.wrap (a2 - a1)), (IntKind.i64.wrap (a3 - a2)), a0) h ?_ ?_
    · exact ca_XDSrt
    · intro x3 h; intro _; obtain ⟨k27, m4, h⟩ := succ_of (f := fun n => M_s_rotateCmpFunc_Step_L1 a2 a4 g n x3.2.1 x3.2.2.1 x3.2.2.2) rfl h; replace h : M_s_rotateCmpFunc_Step_L1 a2 a4 g (k27 + 1) x3.2.1 x3.2.2.1 x3.2.2.2 = some o1 := h; rw [M_s_rotateCmpFunc_Step_L1] at h; refine aSq ?_; refine aSq ?_; refine aRg ?_; intro _; refine dr_XDSrt ?_; refine aCd ?_; intro _; refine spl h (fun c5 h => ?_) (fun c5 h => ?_)
      · refine aSk ?_; refine aBk ?_; refine aSq ?_; refine aRg ?_; intro _; refine dr_XDSrt ?_; refine aCd ?_; intro _; refine spl h (fun c6 h => ?_) (fun c6 h => ?_)
        · refine aSq ?_; refine aRg ?_; intro _; obtain ⟨c28, u7, h⟩ := ob1_ok h; refine clg_XDSrt [(38, 58)] [] [] [(58, ⟨0, some ⟨37, 3, false, c28.map cGStep⟩⟩)] (.tup []) rfl rfl (A_s_swapRangeCmpFunc_Step g x3.2.2.2 (IntKind.i64.wrap (a2 - x3.2.1)) a2 x3.2.2.1 a4 (.clo (.func fa4) sa4 qa4) hFa4 ⟨_, _, _, rfl⟩ ha4 u7) ?_; obtain ⟨q8, h⟩ := grd_ok h; intro _; refine dr_XDSrt ?_; refine aRg ?_; intro _; refine dr_XDSrt ?_; refine ⟨(k27, (IntKind.i64.wrap (x3.2.1 - x3.2.2.1)), x3.2.2.1, c28), h, ltS m4, ?_⟩; exact ca_XDSrt
        · refine aSq ?_; refine aRg ?_; intro _; obtain ⟨c29, u9, h⟩ := ob1_ok h; refine clg_XDSrt [(38, 58)] [] [] [(58, ⟨0, some ⟨37, 3, false, c29.map cGStep⟩⟩)] (.tup []) rfl rfl (A_s_swapRangeCmpFunc_Step g x3.2.2.2 (IntKind.i64.wrap (a2 - x3.2.1)) (IntKind.i64.wrap ((IntKind.i64.wrap (a2 + x3.2.2.1)) - x3.2.1)) x3.2.1 a4 (.clo (.func fa4) sa4 qa4) hFa4 ⟨_, _, _, rfl⟩ ha4 u9) ?_; obtain ⟨q10, h⟩ := grd_ok h; intro _; refine dr_XDSrt ?_; refine aRg ?_; intro _; refine dr_XDSrt ?_; refine ⟨(k27, x3.2.1, (IntKind.i64.wrap (x3.2.2.1 - x3.2.1)), c29), h, ltS m4, ?_⟩; exact ca_XDSrt
      · refine aEx ?_; refine ⟨(x3.2.1, x3.2.2.2), (Option.some.inj h).symm, ?_⟩; exact ca_XDSrt
  · rintro ⟨v14, v15⟩ ho; have ho := ho.symm; subst ho; intro _; replace h := hK2; refine aRg ?_; intro _; obtain ⟨c30, u11, h⟩ := ob1_ok h; refine clg_XDSrt [(38, 58)] [] [] [(58, ⟨0, some ⟨37, 3, false, c30.map cGStep⟩⟩)] (.tup []) rfl rfl (A_s_swapRangeCmpFunc_Step g v15 (IntKind.i64.wrap (a2 - v14)) a2 v14 a4 (.clo (.func fa4) sa4 qa4) hFa4 ⟨_, _, _, rfl⟩ ha4 u11) ?_; obtain ⟨q12, h⟩ := grd_ok h; intro _; refine dr_XDSrt ?_; intro _; obtain rfl := inj1 h; all_goals (refine Exists.intro [] (And.intro rfl (And.intro ?_ ?_))); all_goals (exact zg_XDSrt)
def M_s_symMergeCmpFunc_Step_L1 (a0 : List GStep) (a1 : Int) (a4 : GStep → GStep → Option Int) : Nat → Int → Int → Option (Int)
  | 0, _, _ => none
  | k76 + 1, v74, v75 =>
    sel (decide (v74 < v75))
     (ixn a0 (((IntKind.i64.wrap (Int.fdiv (IntKind.u64.wrap (IntKind.i64.wrap (v74 + v75))) 2))).toNat) (fun y77 =>
       ixn a0 ((a1).toNat) (fun y78 =>
        ob1 (a4 y77 y78) (fun z79 =>
         grd (0 ≤ (IntKind.i64.wrap (Int.fdiv (IntKind.u64.wrap (IntKind.i64.wrap (v74 + v75))) 2))) (grd ((IntKind.i64.wrap (Int.fdiv (IntKind.u64.wrap (IntKind.i64.wrap (v74 + v75))) 2)) < ((a0.length : Nat) : Int)) (grd (0 ≤ a1) (grd (a1 < ((a0.length : Nat) : Int)) (sel (decide (z79 < 0))
          (M_s_symMergeCmpFunc_Step_L1 a0 a1 a4 k76 (IntKind.i64.wrap ((IntKind.i64.wrap (Int.fdiv (IntKind.u64.wrap (IntKind.i64.wrap (v74 + v75))) 2)) + 1)) v75)
          (M_s_symMergeCmpFunc_Step_L1 a0 a1 a4 k76 v74 (IntKind.i64.wrap (Int.fdiv (IntKind.u64.wrap (IntKind.i64.wrap (v74 + v75))) 2)))))))))))
     (some v74)
def M_s_symMergeCmpFunc_Step_L2 (v64 : Int) : Nat → Int → (List GStep) → Option (Unit ⊕ (List GStep))
  | 0, _, _ => none
  | k92 + 1, v90, v91 =>
    sel (decide (v90 < (IntKind.i64.wrap (v64 - 1))))
     (ixn v91 (((IntKind.i64.wrap (v90 + 1))).toNat) (fun y93 =>
       ixn v91 ((v90).toNat) (fun y94 =>
        ixn v91 ((v90).toNat) (fun _ =>
         ixn (v91.set ((v90).toNat) y93) (((IntKind.i64.wrap (v90 + 1))).toNat) (fun _ =>
          grd (0 ≤ (IntKind.i64.wrap (v90 + 1))) (grd ((IntKind.i64.wrap (v90 + 1)) < ((v91.length : Nat) : Int)) (grd (0 ≤ v90) (grd (v90 < ((v91.length : Nat) : Int)) (M_s_symMergeCmpFunc_Step_L2 v64 k92 (IntKind.i64.wrap (v90 + 1)) ((v91.set ((v90).toNat) y93).set (((IntKind.i64.wrap (v90 + 1))).toNat) y94))))))))))
     (some (.inr v91))
def M_s_symMergeCmpFunc_Step_L3 (a0 : List GStep) (a2 : Int) (a4 : GStep → GStep → Option Int) : Nat → Int → Int → Option (Int)
  | 0, _, _ => none
  | k172 + 1, v170, v171 =>
    sel (decide (v170 < v171))
     (ixn a0 ((a2).toNat) (fun y173 =>
       ixn a0 (((IntKind.i64.wrap (Int.fdiv (IntKind.u64.wrap (IntKind.i64.wrap (v170 + v171))) 2))).toNat) (fun y174 =>
        ob1 (a4 y173 y174) (fun z175 =>
         grd (0 ≤ a2) (grd (a2 < ((a0.length : Nat) : Int)) (grd (0 ≤ (IntKind.i64.wrap (Int.fdiv (IntKind.u64.wrap (IntKind.i64.wrap (v170 + v171))) 2))) (grd ((IntKind.i64.wrap (Int.fdiv (IntKind.u64.wrap (IntKind.i64.wrap (v170 + v171))) 2)) < ((a0.length : Nat) : Int)) (sel (!(decide (z175 < 0)))
          (M_s_symMergeCmpFunc_Step_L3 a0 a2 a4 k172 (IntKind.i64.wrap ((IntKind.i64.wrap (Int.fdiv (IntKind.u64.wrap (IntKind.i64.wrap (v170 + v171))) 2)) + 1)) v171)
          (M_s_symMergeCmpFunc_Step_L3 a0 a2 a4 k172 v170 (IntKind.i64.wrap (Int.fdiv (IntKind.u64.wrap (IntKind.i64.wrap (v170 + v171))) 2)))))))))))
     (some v170)
def M_s_symMergeCmpFunc_Step_L4 (v160 : Int) : Nat → Int → (List GStep) → Option (Unit ⊕ (List GStep))
  | 0, _, _ => none
  | k188 + 1, v186, v187 =>
    sel (decide (v186 > v160))
     (ixn v187 (((IntKind.i64.wrap (v186 - 1))).toNat) (fun y189 =>
       ixn v187 ((v186).toNat) (fun y190 =>
        ixn v187 ((v186).toNat) (fun _ =>
         ixn (v187.set ((v186).toNat) y189) (((IntKind.i64.wrap (v186 - 1))).toNat) (fun _ =>
          grd (0 ≤ (IntKind.i64.wrap (v186 - 1))) (grd ((IntKind.i64.wrap (v186 - 1)) < ((v187.length : Nat) : Int)) (grd (0 ≤ v186) (grd (v186 < ((v187.length : Nat) : Int)) (M_s_symMergeCmpFunc_Step_L4 v160 k188 (IntKind.i64.wrap (v186 - 1)) ((v187.set ((v186).toNat) y189).set (((IntKind.i64.wrap (v186 - 1))).toNat) y190))))))))))
     (some (.inr v187))
def M_s_symMergeCmpFunc_Step_L5 (a0 : List GStep) (a1 : Int) (a2 : Int) (a3 : Int) (a4 : GStep → GStep → Option Int) : Nat → Int → Int → Option (Int)
  | 0, _, _ => none
  | k222 + 1, v220, v221 =>
    sel (decide (v220 < v221))
     (ixn a0 (((IntKind.i64.wrap ((IntKind.i64.wrap ((IntKind.i64.wrap ((IntKind.i64.wrap (Int.fdiv (IntKind.u64.wrap (IntKind.i64.wrap (a1 + a3))) 2)) + a2)) - 1)) - (IntKind.i64.wrap (Int.fdiv (IntKind.u64.wrap (IntKind.i64.wrap (v220 + v221))) 2))))).toNat) (fun y223 =>
       ixn a0 (((IntKind.i64.wrap (Int.fdiv (IntKind.u64.wrap (IntKind.i64.wrap (v220 + v221))) 2))).toNat) (fun y224 =>
        ob1 (a4 y223 y224) (fun z225 =>
         grd (0 ≤ (IntKind.i64.wrap ((IntKind.i64.wrap ((IntKind.i64.wrap ((IntKind.i64.wrap (Int.fdiv (IntKind.u64.wrap (IntKind.i64.wrap (a1 + a3))) 2)) + a2)) - 1)) - (IntKind.i64.wrap (Int.fdiv (IntKind.u64.wrap (IntKind.i64.wrap (v220 + v221))) 2))))) (grd ((IntKind.i64.wrap ((IntKind.i64.wrap ((IntKind.i64.wrap ((IntKind.i64.wrap (Int.fdiv (IntKind.u64.wrap (IntKind.i64.wrap (a1 + a3))) 2)) + a2)) - 1)) - (IntKind.i64.wrap (Int.fdiv (IntKind.u64.wrap (IntKind.i64.wrap (v220 + v221))) 2)))) < ((a0.length : Nat) : Int)) (grd (0 ≤ (IntKind.i64.wrap (Int.fdiv (IntKind.u64.wrap (IntKind.i64.wrap (v220 + v221))) 2))) (grd ((IntKind.i64.wrap (Int.fdiv (IntKind.u64.wrap (IntKind.i64.wrap (v220 + v221))) 2)) < ((a0.length : Nat) : Int)) (sel (!(decide (z225 < 0)))
          (M_s_symMergeCmpFunc_Step_L5 a0 a1 a2 a3 a4 k222 (IntKind.i64.wrap ((IntKind.i64.wrap (Int.fdiv (IntKind.u64.wrap (IntKind.i64.wrap (v220 + v221))) 2)) + 1)) v221)
          (M_s_symMergeCmpFunc_Step_L5 a0 a1 a2 a3 a4 k222 v220 (IntKind.i64.wrap (Int.fdiv (IntKind.u64.wrap (IntKind.i64.wrap (v220 + v221))) 2)))))))))))
     (some v220)
def M_s_symMergeCmpFunc_Step : Nat → (List GStep) → Int → Int → Int → (GStep → GStep → Option Int) → Option (List GStep)
  | 0, _, _, _, _, _ => none
  | g + 1, a0, a1, a2, a3, a4 =>
    ob1 (sel ((IntKind.i64.wrap (a2 - a1)) == 1)
    (ob1 (M_s_symMergeCmpFunc_Step_L1 a0 a1 a4 g a2 a3 : Option (Int))
      (fun v64 => M_s_symMergeCmpFunc_Step_L2 v64 g a1 a0))
    (some (.inl ())) : Option (Unit ⊕ (List GStep)))
   (osum
   (fun _ => ob1 (sel ((IntKind.i64.wrap (a3 - a2)) == 1)
       (ob1 (M_s_symMergeCmpFunc_Step_L3 a0 a2 a4 g a1 a2 : Option (Int))
         (fun v160 => M_s_symMergeCmpFunc_Step_L4 v160 g a2 a0))
       (some (.inl ())) : Option (Unit ⊕ (List GStep)))
      (osum
      (fun _ => ob1 (sel (decide (a2 > (IntKind.i64.wrap (Int.fdiv (IntKind.u64.wrap (IntKind.i64.wrap (a1 + a3))) 2))))
          (some ((IntKind.i64.wrap ((IntKind.i64.wrap ((IntKind.i64.wrap (Int.fdiv (IntKind.u64.wrap (IntKind.i64.wrap (a1 + a3))) 2)) + a2)) - a3)), (IntKind.i64.wrap (Int.fdiv (IntKind.u64.wrap (IntKind.i64.wrap (a1 + a3))) 2))))
          (some (a1, a2)) : Option (Int × Int))
         (fun (v193, v194) => ob1 (M_s_symMergeCmpFunc_Step_L5 a0 a1 a2 a3 a4 g v193 v194 : Option (Int))
            (fun v210 => ob1 (sel (decide (v210 < a2))
                (sel (decide (a2 < (IntKind.i64.wrap ((IntKind.i64.wrap ((IntKind.i64.wrap (Int.fdiv (IntKind.u64.wrap (IntKind.i64.wrap (a1 + a3))) 2)) + a2)) - v210))))
                  (ob1 (M_s_rotateCmpFunc_Step g a0 v210 a2 (IntKind.i64.wrap ((IntKind.i64.wrap ((IntKind.i64.wrap (Int.fdiv (IntKind.u64.wrap (IntKind.i64.wrap (a1 + a3))) 2)) + a2)) - v210)) a4) (fun c229 =>
                    grd (c229.length = a0.length) (some c229)))
                  (some a0))
                (some a0) : Option (List GStep))
               (fun v227 => ob1 (sel (decide (a1 < v210))
                   (sel (decide (v210 < (IntKind.i64.wrap (Int.fdiv (IntKind.u64.wrap (IntKind.i64.wrap (a1 + a3))) 2))))
                     (ob1 ((M_s_symMergeCmpFunc_Step g) v227 a1 v210 (IntKind.i64.wrap (Int.fdiv (IntKind.u64.wrap (IntKind.i64.wrap (a1 + a3))) 2)) a4) (fun c233 =>
                       grd (c233.length = v227.length) (some c233)))
                     (some v227))
                   (some v227) : Option (List GStep))
                  (fun v231 => sel (decide ((IntKind.i64.wrap (Int.fdiv (IntKind.u64.wrap (IntKind.i64.wrap (a1 + a3))) 2)) < (IntKind.i64.wrap ((IntKind.i64.wrap ((IntKind.i64.wrap (Int.fdiv (IntKind.u64.wrap (IntKind.i64.wrap (a1 + a3))) 2)) + a2)) - v210))))
                     (sel (decide ((IntKind.i64.wrap ((IntKind.i64.wrap ((IntKind.i64.wrap (Int.fdiv (IntKind.u64.wrap (IntKind.i64.wrap (a1 + a3))) 2)) + a2)) - v210)) < a3))
                       (ob1 ((M_s_symMergeCmpFunc_Step g) v231 (IntKind.i64.wrap (Int.fdiv (IntKind.u64.wrap (IntKind.i64.wrap (a1 + a3))) 2)) (IntKind.i64.wrap ((IntKind.i64.wrap ((IntKind.i64.wrap (Int.fdiv (IntKind.u64.wrap (IntKind.i64.wrap (a1 + a3))) 2)) + a2)) - v210)) a3 a4) (fun c234 =>
                         grd (c234.length = v231.length) (some c234)))
                       (some v231))
                     (some v231))))))
      (fun r144 => some r144)))
   (fun r48 => some r48))
set_option maxHeartbeats 16000000 in
set_option maxRecDepth 100000 in
theorem A_s_symMergeCmpFunc_Step : ∀ (g : Nat) (a0 : List GStep) (a1 : Int) (a2 : Int) (a3 : Int) (a4 : GStep → GStep → Option Int) (Fa4 : AV) (hFa4 : Fr Fa4) (ea4 : ∃ f fs cap, Fa4 = .clo (.func f) fs cap) (ha4 : ∀ (x0 : GStep) (x1 : GStep) (y0 : Int), a4 x0 x1 = some y0 → CCl cx Fa4 [.agg [.c (.int .i64 x0.At), .c (.string x0.Name), .sl 1 (x0.Args.map cS)], .agg [.c (.int .i64 x1.At), .c (.string x1.Name), .sl 1 (x1.Args.map cS)]] (.c (.int .i64 y0))) {r1 : List GStep} (_ : M_s_symMergeCmpFunc_Step g a0 a1 a2 a3 a4 = some r1), ACallG cx 81 [.own 220 0 0 a0.length, .c (.int .i64 a1), .c (.int .i64 a2), .c (.int .i64 a3), Fa4] [(220, ⟨37, 3, false, a0.map cGStep⟩)] [220] (.tup []) [(220, ⟨37, 3, false, r1.map cGStep⟩)]
  := by
  intro g
  induction g with
  | zero => intros; rename_i h; rw [M_s_symMergeCmpFunc_Step] at h; cases h
  | succ g ih =>
    intro a0 a1 a2 a3 a4 Fa4 hFa4 ea4 ha4 r1 h; obtain ⟨fa4, sa4, qa4, rfl⟩ := ea4; refine acallg_of 225 Tryd.func81 rfl (by decide) rfl (Nat.le_of_ble_eq_true rfl) rfl rfl ?_; intro _; rw [M_s_symMergeCmpFunc_Step] at h; obtain ⟨o1, h, hK2⟩ := ob1_ok h; refine awp_cut (α := Unit) (fun _ => mkG 220 225 [(0, .own 220 0 0 a0.length), (1, .c (.int .i64 a1)), (2, .c (.int .i64 a2)), (3, .c (.int .i64 a3)), (4, .clo (.func fa4) sa4 qa4)] [(220, ⟨37, 3, false, a0.map cGStep⟩)]) (fun v => o1 = (.inl v)) ?_ ?_
    · refine aSq ?_; refine aRg ?_; intro _; refine dr_XDSrt ?_; refine aCd ?_; intro _; refine spl h (fun c3 h => ?_) (fun c3 h => ?_)
      · refine aSq ?_; refine aRg ?_; intro _; refine dr_XDSrt ?_; refine aSq ?_; refine aRg ?_; intro _; refine dr_XDSrt ?_; obtain ⟨o4, h, hK5⟩ := ob1_ok h; refine awp_cut (α := Int) (fun v64 => mkG 220 225 [(0, .own 220 0 0 a0.length), (1, .c (.int .i64 a1)), (10, .c (.int .i64 v64))] [(220, ⟨37, 3, false, a0.map cGStep⟩)]) (fun v => o4 = v) ?_ ?_
        · refine aBk ?_; refine awp_loop (α := Nat × Int × Int) (fun x => mkG 220 225 [(0, .own 220 0 0 a0.length), (1, .c (.int .i64 a1)), (4, .clo (.func fa4) sa4 qa4), (10, .c (.int .i64 x.2.1)), (11, .c (.int .i64 x.2.2))] [(220, ⟨37, 3, false, a0.map cGStep⟩)]) (fun x => M_s_symMergeCmpFunc_Step_L1 a0 a1 a4 x.1 x.2.1 x.2.2 = some o4) (fun x => x.1) (g, a2, a3) h ?_ ?_
          · exact ca_XDSrt
          · intro x6 h; intro _; obtain ⟨k76, m7, h⟩ := succ_of (f := fun n => M_s_symMergeCmpFunc_Step_L1 a0 a1 a4 n x6.2.1 x6.2.2) rfl h; replace h : M_s_symMergeCmpFunc_Step_L1 a0 a1 a4 (k76 + 1) x6.2.1 x6.2.2 = some o4 := h; rw [M_s_symMergeCmpFunc_Step_L1] at h; refine aSq ?_; refine aSq ?_; refine aRg ?_; intro _; refine dr_XDSrt ?_; refine aCd ?_; intro _; refine spl h (fun c8 h => ?_) (fun c8 h => ?_)
            · refine aSk ?_; refine aBk ?_; refine aSq ?_; refine aRg ?_; intro _; refine dr_XDSrt ?_; refine aSq ?_; refine aRg ?_; intro _; obtain ⟨y77, w9, h⟩ := ixn_ok h; refine Exists.intro (cGStep y77) (And.intro (by first | exact map_at' w9 | (have w := map_at' (f := cGStep) w9; simpa [cGStep] using w)) ?_); intro _; obtain ⟨y78, w10, h⟩ := ixn_ok h; refine Exists.intro (cGStep y78) (And.intro (by first | exact map_at' w10 | (have w := map_at' (f := cGStep) w10; simpa [cGStep] using w)) ?_); intro _; obtain ⟨z79, u11, h⟩ := ob1_ok h; refine clc_XDSrt rfl (ha4 _ _ _ u11) hFa4 ?_; intro _; obtain ⟨q12, h⟩ := grd_ok h; obtain ⟨q13, h⟩ := grd_ok h; obtain ⟨q14, h⟩ := grd_ok h; obtain ⟨q15, h⟩ := grd_ok h; refine pr_XDSrt ?_; refine pr_XDSrt ?_; refine pr_XDSrt ?_; refine pr_XDSrt ?_; refine dr_XDSrt ?_; refine aCd ?_; intro _; refine spl h (fun c16 h => ?_) (fun c16 h => ?_)
              · refine aRg ?_; intro _; refine dr_XDSrt ?_; refine ⟨(k76, (IntKind.i64.wrap ((IntKind.i64.wrap (Int.fdiv (IntKind.u64.wrap (IntKind.i64.wrap (x6.2.1 + x6.2.2))) 2)) + 1)), x6.2.2), h, ltS m7, ?_⟩; exact ca_XDSrt
              · refine aRg ?_; intro _; refine dr_XDSrt ?_; refine ⟨(k76, x6.2.1, (IntKind.i64.wrap (Int.fdiv (IntKind.u64.wrap (IntKind.i64.wrap (x6.2.1 + x6.2.2))) 2))), h, ltS m7, ?_⟩; exact ca_XDSrt
            · refine aEx ?_; refine ⟨x6.2.1, (Option.some.inj h).symm, ?_⟩; exact ca_XDSrt
        · rintro v64 ho; have ho := ho.symm; subst ho; intro _; replace h := hK5; refine aSq ?_; refine aSq ?_; refine aRg ?_; intro _; refine dr_XDSrt ?_; refine aBk ?_; refine awp_loop (α := Nat × Int × (List GStep)) (fun x => mkG 220 225 [(0, .own 220 0 0 x.2.2.length), (10, .c (.int .i64 v64)), (13, .c (.int .i64 x.2.1))] [(220, ⟨37, 3, false, x.2.2.map cGStep⟩)]) (fun x => M_s_symMergeCmpFunc_Step_L2 v64 x.1 x.2.1 x.2.2 = some o1) (fun x => x.1) (g, a1, a0) h ?_ ?_
          · exact ca_XDSrt
          · intro x17 h; intro _; obtain ⟨k92, m18, h⟩ := succ_of (f := fun n => M_s_symMergeCmpFunc_Step_L2 v64 n x17.2.1 x17.2.2) rfl h; replace h : M_s_symMergeCmpFunc_Step_L2 v64 (k92 + 1) x17.2.1 x17.2.2 = some o1 := h; rw [M_s_symMergeCmpFunc_Step_L2] at h; refine aSq ?_; refine aSq ?_; refine aRg ?_; intro _; refine dr_XDSrt ?_; refine aCd ?_; intro _; refine spl h (fun c19 h => ?_) (fun c19 h => ?_)
            · refine aSk ?_; refine aSq ?_; refine aBk ?_; refine aRg ?_; intro _; obtain ⟨y93, w20, h⟩ := ixn_ok h; refine Exists.intro (cGStep y93) (And.intro (by first | exact map_at' w20 | (have w := map_at' (f := cGStep) w20; simpa [cGStep] using w)) ?_); intro _; obtain ⟨y94, w21, h⟩ := ixn_ok h; refine Exists.intro (cGStep y94) (And.intro (by first | exact map_at' w21 | (have w := map_at' (f := cGStep) w21; simpa [cGStep] using w)) ?_); intro _; obtain ⟨y95, w22, h⟩ := ixn_ok h; refine Exists.intro (cGStep y95) (And.intro (by first | exact map_at' w22 | (have w := map_at' (f := cGStep) w22; simpa [cGStep] using w)) ?_); intro _; obtain ⟨y96, w23, h⟩ := ixn_ok h; refine Exists.intro (cGStep y96) (And.intro (by first | exact map_at' w23 | (have w := map_at' (f := cGStep) w23; simpa [cGStep] using w)) ?_); intro _; obtain ⟨q24, h⟩ := grd_ok h; obtain ⟨q25, h⟩ := grd_ok h; obtain ⟨q26, h⟩ := grd_ok h; obtain ⟨q27, h⟩ := grd_ok h; refine pr_XDSrt ?_; refine pr_XDSrt ?_; refine pr_XDSrt ?_; refine pr_XDSrt ?_; refine pr_XDSrt ?_; refine pr_XDSrt ?_; refine pr_XDSrt ?_; refine pr_XDSrt ?_; refine dr_XDSrt ?_; refine aRg ?_; intro _; refine dr_XDSrt ?_; refine ⟨(k92, (IntKind.i64.wrap (x17.2.1 + 1)), ((x17.2.2.set ((x17.2.1).toNat) y93).set (((IntKind.i64.wrap (x17.2.1 + 1))).toNat) y94)), h, ltS m18, ?_⟩; exact ca_XDSrt
            · refine aEx ?_; refine aRt ?_; have j28 := Option.some.inj h; subst j28; replace h := (osum_r hK2); intro _; obtain rfl := inj1 h; all_goals (refine Exists.intro [] (And.intro rfl (And.intro ?_ ?_))); all_goals (exact zg_XDSrt)
      · refine aSk ?_; refine ⟨(), (Option.some.inj h).symm, ?_⟩; exact ca_XDSrt
    · rintro _ ho; have ho := ho.symm; subst ho; intro _; replace h := (osum_l hK2); obtain ⟨o29, h, hK30⟩ := ob1_ok h; refine awp_cut (α := Unit) (fun _ => mkG 220 225 [(0, .own 220 0 0 a0.length), (1, .c (.int .i64 a1)), (2, .c (.int .i64 a2)), (3, .c (.int .i64 a3)), (4, .clo (.func fa4) sa4 qa4)] [(220, ⟨37, 3, false, a0.map cGStep⟩)]) (fun v => o29 = (.inl v)) ?_ ?_
      · refine aSq ?_; refine aRg ?_; intro _; refine dr_XDSrt ?_; refine aCd ?_; intro _; refine spl h (fun c31 h => ?_) (fun c31 h => ?_)
        · refine aSq ?_; refine aRg ?_; intro _; refine dr_XDSrt ?_; refine aSq ?_; refine aRg ?_; intro _; refine dr_XDSrt ?_; obtain ⟨o32, h, hK33⟩ := ob1_ok h; refine awp_cut (α := Int) (fun v160 => mkG 220 225 [(0, .own 220 0 0 a0.length), (2, .c (.int .i64 a2)), (14, .c (.int .i64 v160))] [(220, ⟨37, 3, false, a0.map cGStep⟩)]) (fun v => o32 = v) ?_ ?_
          · refine aBk ?_; refine awp_loop (α := Nat × Int × Int) (fun x => mkG 220 225 [(0, .own 220 0 0 a0.length), (2, .c (.int .i64 a2)), (4, .clo (.func fa4) sa4 qa4), (14, .c (.int .i64 x.2.1)), (15, .c (.int .i64 x.2.2))] [(220, ⟨37, 3, false, a0.map cGStep⟩)]) (fun x => M_s_symMergeCmpFunc_Step_L3 a0 a2 a4 x.1 x.2.1 x.2.2 = some o32) (fun x => x.1) (g, a1, a2) h ?_ ?_
            · exact ca_XDSrt
            · intro x34 h; intro _; obtain ⟨k172, m35, h⟩ := succ_of (f := fun n => M_s_symMergeCmpFunc_Step_L3 a0 a2 a4 n x34.2.1 x34.2.2) rfl h; replace h : M_s_symMergeCmpFunc_Step_L3 a0 a2 a4 (k172 + 1) x34.2.1 x34.2.2 = some o32 := h; rw [M_s_symMergeCmpFunc_Step_L3] at h; refine aSq ?_; refine aSq ?_; refine aRg ?_; intro _; refine dr_XDSrt ?_; refine aCd ?_; intro _; refine spl h (fun c36 h => ?_) (fun c36 h => ?_)
              · refine aSk ?_; refine aBk ?_; refine aSq ?_; refine aRg ?_; intro _; refine dr_XDSrt ?_; refine aSq ?_; refine aRg ?_; intro _; obtain ⟨y173, w37, h⟩ := ixn_ok h; refine Exists.intro (cGStep y173) (And.intro (by first | exact map_at' w37 | (have w := map_at' (f := cGStep) w37; simpa [cGStep] using w)) ?_); intro _; obtain ⟨y174, w38, h⟩ := ixn_ok h; refine Exists.intro (cGStep y174) (And.intro (by first | exact map_at' w38 | (have w := map_at' (f := cGStep) w38; simpa [cGStep] using w)) ?_); intro _; obtain ⟨z175, u39, h⟩ := ob1_ok h; refine clc_XDSrt rfl (ha4 _ _ _ u39) hFa4 ?_; intro _; obtain ⟨q40, h⟩ := grd_ok h; obtain ⟨q41, h⟩ := grd_ok h; obtain ⟨q42, h⟩ := grd_ok h; obtain ⟨q43, h⟩ := grd_ok h; refine pr_XDSrt ?_; refine pr_XDSrt ?_; refine pr_XDSrt ?_; refine pr_XDSrt ?_; refine dr_XDSrt ?_; refine aCd ?_; intro _; refine spl h (fun c44 h => ?_) (fun c44 h => ?_)
                · refine aRg ?_; intro _; refine dr_XDSrt ?_; refine ⟨(k172, (IntKind.i64.wrap ((IntKind.i64.wrap (Int.fdiv (IntKind.u64.wrap (IntKind.i64.wrap (x34.2.1 + x34.2.2))) 2)) + 1)), x34.2.2), h, ltS m35, ?_⟩; exact ca_XDSrt
                · refine aRg ?_; intro _; refine dr_XDSrt ?_; refine ⟨(k172, x34.2.1, (IntKind.i64.wrap (Int.fdiv (IntKind.u64.wrap (IntKind.i64.wrap (x34.2.1 + x34.2.2))) 2))), h, ltS m35, ?_⟩; exact ca_XDSrt
              · refine aEx ?_; refine ⟨x34.2.1, (Option.some.inj h).symm, ?_⟩; exact ca_XDSrt
          · rintro v160 ho; have ho := ho.symm; subst ho; intro _; replace h := hK33; refine aSq ?_; refine aSq ?_; refine aRg ?_; intro _; refine dr_XDSrt ?_; refine aBk ?_; refine awp_loop (α := Nat × Int × (List GStep)) (fun x => mkG 220 225 [(0, .own 220 0 0 x.2.2.length), (14, .c (.int .i64 v160)), (17, .c (.int .i64 x.2.1))] [(220, ⟨37, 3, false, x.2.2.map cGStep⟩)]) (fun x => M_s_symMergeCmpFunc_Step_L4 v160 x.1 x.2.1 x.2.2 = some o29) (fun x => x.1) (g, a2, a0) h ?_ ?_
            · exact ca_XDSrt
            · intro x45 h; intro _; obtain ⟨k188, m46, h⟩ := succ_of (f := fun n => M_s_symMergeCmpFunc_Step_L4 v160 n x45.2.1 x45.2.2) rfl h; replace h : M_s_symMergeCmpFunc_Step_L4 v160 (k188 + 1) x45.2.1 x45.2.2 = some o29 := h; rw [M_s_symMergeCmpFunc_Step_L4] at h; refine aSq ?_; refine aSq ?_; refine aRg ?_; intro _; refine dr_XDSrt ?_; refine aCd ?_; intro _; refine spl h (fun c47 h => ?_) (fun c47 h => ?_)
              · refine aSk ?_; refine aSq ?_; refine aBk ?_; refine aRg ?_; intro _; obtain ⟨y189, w48, h⟩ := ixn_ok h; refine Exists.intro (cGStep y189) (And.intro (by first | exact map_at' w48 | (have w := map_at' (f := cGStep) w48; simpa [cGStep] using w)) ?_); intro _; obtain ⟨y190, w49, h⟩ := ixn_ok h; refine Exists.intro (cGStep y190) (And.intro (by first | exact map_at' w49 | (have w := map_at' (f := cGStep) w49; simpa [cGStep] using w)) ?_); intro _; obtain ⟨y191, w50, h⟩ := ixn_ok h; refine Exists.intro (cGStep y191) (And.intro (by first | exact map_at' w50 | (have w := map_at' (f := cGStep) w50; simpa [cGStep] using w)) ?_); intro _; obtain ⟨y192, w51, h⟩ := ixn_ok h; refine Exists.intro (cGStep y192) (And.intro (by first | exact map_at' w51 | (have w := map_at' (f := cGStep) w51; simpa [cGStep] using w)) ?_); intro _; obtain ⟨q52, h⟩ := grd_ok h; obtain ⟨q53, h⟩ := grd_ok h; obtain ⟨q54, h⟩ := grd_ok h; obtain ⟨q55, h⟩ := grd_ok h; refine pr_XDSrt ?_; refine pr_XDSrt ?_; refine pr_XDSrt ?_; refine pr_XDSrt ?_; refine pr_XDSrt ?_; refine pr_XDSrt ?_; refine pr_XDSrt ?_; refine pr_XDSrt ?_; refine dr_XDSrt ?_; refine aRg ?_; intro _; refine dr_XDSrt ?_; refine ⟨(k188, (IntKind.i64.wrap (x45.2.1 - 1)), ((x45.2.2.set ((x45.2.1).toNat) y189).set (((IntKind.i64.wrap (x45.2.1 - 1))).toNat) y190)), h, ltS m46, ?_⟩; exact ca_XDSrt
              · refine aEx ?_; refine aRt ?_; have j56 := Option.some.inj h; subst j56; replace h := (osum_r hK30); intro _; obtain rfl := inj1 h; all_goals (refine Exists.intro [] (And.intro rfl (And.intro ?_ ?_))); all_goals (exact zg_XDSrt)
        · refine aSk ?_; refine ⟨(), (Option.some.inj h).symm, ?_⟩; exact ca_XDSrt
      · rintro _ ho; have ho := ho.symm; subst ho; intro _; replace h := (osum_l hK30); refine aSq ?_; refine aRg ?_; intro _; refine dr_XDSrt ?_; refine aSq ?_; refine aRg ?_; intro _; refine dr_XDSrt ?_; refine aSq ?_; refine aRg ?_; intro _; refine dr_XDSrt ?_; obtain ⟨o57, h, hK58⟩ := ob1_ok h; refine awp_cut (α := Int × Int) (fun (v193, v194) => mkG 220 225 [(0, .own 220 0 0 a0.length), (1, .c (.int .i64 a1)), (2, .c (.int .i64 a2)), (3, .c (.int .i64 a3)), (4, .clo (.func fa4) sa4 qa4), (18, .c (.int .i64 (IntKind.i64.wrap (Int.fdiv (IntKind.u64.wrap (IntKind.i64.wrap (a1 + a3))) 2)))), (19, .c (.int .i64 (IntKind.i64.wrap ((IntKind.i64.wrap (Int.fdiv (IntKind.u64.wrap (IntKind.i64.wrap (a1 + a3))) 2)) + a2)))), (20, .c (.int .i64 v193)), (21, .c (.int .i64 v194))] [(220, ⟨37, 3, false, a0.map cGStep⟩)]) (fun v => o57 = v) ?_ ?_
        · refine aSq ?_; refine aRg ?_; intro _; refine dr_XDSrt ?_; refine aCd ?_; intro _; refine spl h (fun c59 h => ?_) (fun c59 h => ?_)
          · refine aSq ?_; refine aRg ?_; intro _; refine dr_XDSrt ?_; refine aRg ?_; intro _; refine dr_XDSrt ?_; refine ⟨((IntKind.i64.wrap ((IntKind.i64.wrap ((IntKind.i64.wrap (Int.fdiv (IntKind.u64.wrap (IntKind.i64.wrap (a1 + a3))) 2)) + a2)) - a3)), (IntKind.i64.wrap (Int.fdiv (IntKind.u64.wrap (IntKind.i64.wrap (a1 + a3))) 2))), (Option.some.inj h).symm, ?_⟩; exact ca_XDSrt
          · refine aSq ?_; refine aRg ?_; intro _; refine dr_XDSrt ?_; refine aRg ?_; intro _; refine dr_XDSrt ?_; refine ⟨(a1, a2), (Option.some.inj h).symm, ?_⟩; exact ca_XDSrt
        · rintro ⟨v193, v194⟩ ho; have ho := ho.symm; subst ho; intro _; replace h := hK58; refine aSq ?_; refine aRg ?_; intro _; refine dr_XDSrt ?_; obtain ⟨o60, h, hK61⟩ := ob1_ok h; refine awp_cut (α := Int) (fun v210 => mkG 220 225 [(0, .own 220 0 0 a0.length), (1, .c (.int .i64 a1)), (2, .c (.int .i64 a2)), (3, .c (.int .i64 a3)), (4, .clo (.func fa4) sa4 qa4), (18, .c (.int .i64 (IntKind.i64.wrap (Int.fdiv (IntKind.u64.wrap (IntKind.i64.wrap (a1 + a3))) 2)))), (19, .c (.int .i64 (IntKind.i64.wrap ((IntKind.i64.wrap (Int.fdiv (IntKind.u64.wrap (IntKind.i64.wrap (a1 + a3))) 2)) + a2)))), (20, .c (.int .i64 v210))] [(220, ⟨37, 3, false, a0.map cGStep⟩)]) (fun v => o60 = v) ?_ ?_
          · refine aBk ?_; refine awp_loop (α := Nat × Int × Int) (fun x => mkG 220 225 [(0, .own 220 0 0 a0.length), (1, .c (.int .i64 a1)), (2, .c (.int .i64 a2)), (3, .c (.int .i64 a3)), (4, .clo (.func fa4) sa4 qa4), (18, .c (.int .i64 (IntKind.i64.wrap (Int.fdiv (IntKind.u64.wrap (IntKind.i64.wrap (a1 + a3))) 2)))), (19, .c (.int .i64 (IntKind.i64.wrap ((IntKind.i64.wrap (Int.fdiv (IntKind.u64.wrap (IntKind.i64.wrap (a1 + a3))) 2)) + a2)))), (20, .c (.int .i64 x.2.1)), (21, .c (.int .i64 x.2.2)), (22, .c (.int .i64 (IntKind.i64.wrap ((IntKind.i64.wrap ((IntKind.i64.wrap (Int.fdiv (IntKind.u64.wrap (IntKind.i64.wrap (a1 + a3))) 2)) + a2)) - 1))))] [(220, ⟨37, 3, false, a0.map cGStep⟩)]) (fun x => M_s_symMergeCmpFunc_Step_L5 a0 a1 a2 a3 a4 x.1 x.2.1 x.2.2 = some o60) (fun x => x.1) (g, v193, v194) h ?_ ?_
            · exact ca_XDSrt
            · intro x62 h; intro _; obtain ⟨k222, m63, h⟩ := succ_of (f := fun n => M_s_symMergeCmpFunc_Step_L5 a0 a1 a2 a3 a4 n x62.2.1 x62.2.2) rfl h; replace h : M_s_symMergeCmpFunc_Step_L5 a0 a1 a2 a3 a4 (k222 + 1) x62.2.1 x62.2.2 = some o60 := h; rw [M_s_symMergeCmpFunc_Step_L5] at h; refine aSq ?_; refine aSq ?_; refine aRg ?_; intro _; refine dr_XDSrt ?_; refine aCd ?_; intro _; refine spl h (fun c64 h => ?_) (fun c64 h => ?_)
              · refine aSk ?_; refine aBk ?_; refine aSq ?_; refine aRg ?_; intro _; refine dr_XDSrt ?_; refine aSq ?_; refine aRg ?_; intro _; obtain ⟨y223, w65, h⟩ := ixn_ok h; refine Exists.intro (cGStep y223) (And.intro (by first | exact map_at' w65 | (have w := map_at' (f := cGStep) w65; simpa [cGStep] using w)) ?_); intro _; obtain ⟨y224, w66, h⟩ := ixn_ok h; refine Exists.intro (cGStep y224) (And.intro (by first | exact map_at' w66 | (have w := map_at' (f := cGStep) w66; simpa [cGStep] using w)) ?_); intro _; obtain ⟨z225, u67, h⟩ := ob1_ok h; refine clc_XDSrt rfl (ha4 _ _ _ u67) hFa4 ?_; intro _; obtain ⟨q68, h⟩ := grd_ok h; obtain ⟨q69, h⟩ := grd_ok h; obtain ⟨q70, h⟩ := grd_ok h; obtain ⟨q71, h⟩ := grd_ok h; refine pr_XDSrt ?_; refine pr_XDSrt ?_; refine pr_XDSrt ?_; refine pr_XDSrt ?_; refine dr_XDSrt ?_; refine aCd ?_; intro _; refine spl h (fun c72 h => ?_) (fun c72 h => ?_)
                · refine aRg ?_; intro _; refine dr_XDSrt ?_; refine ⟨(k222, (IntKind.i64.wrap ((IntKind.i64.wrap (Int.fdiv (IntKind.u64.wrap (IntKind.i64.wrap (x62.2.1 + x62.2.2))) 2)) + 1)), x62.2.2), h, ltS m63, ?_⟩; exact ca_XDSrt
                · refine aRg ?_; intro _; refine dr_XDSrt ?_; refine ⟨(k222, x62.2.1, (IntKind.i64.wrap (Int.fdiv (IntKind.u64.wrap (IntKind.i64.wrap (x62.2.1 + x62.2.2))) 2))), h, ltS m63, ?_⟩; exact ca_XDSrt
              · refine aEx ?_; refine ⟨x62.2.1, (Option.some.inj h).symm, ?_⟩; exact ca_XDSrt
          · rintro v210 ho; have ho := ho.symm; subst ho; intro _; replace h := hK61; refine aSq ?_; refine aRg ?_; intro _; refine dr_XDSrt ?_; obtain ⟨o73, h, hK74⟩ := ob1_ok h; refine awp_cut (α := List GStep) (fun v227 => mkG 220 225 [(0, .own 220 0 0 v227.length), (1, .c (.int .i64 a1)), (3, .c (.int .i64 a3)), (4, .clo (.func fa4) sa4 qa4), (18, .c (.int .i64 (IntKind.i64.wrap (Int.fdiv (IntKind.u64.wrap (IntKind.i64.wrap (a1 + a3))) 2)))), (20, .c (.int .i64 v210)), (24, .c (.int .i64 (IntKind.i64.wrap ((IntKind.i64.wrap ((IntKind.i64.wrap (Int.fdiv (IntKind.u64.wrap (IntKind.i64.wrap (a1 + a3))) 2)) + a2)) - v210))))] [(220, ⟨37, 3, false, v227.map cGStep⟩)]) (fun v => o73 = v) ?_ ?_
            · refine aSq ?_; refine aRg ?_; intro _; refine spl h (fun c75 h => ?_) (fun c75 h => ?_)
              · intro _; refine dr_XDSrt ?_; refine aCd ?_; intro _; refine spl h (fun c76 h => ?_) (fun c76 h => ?_)
                · refine aRg ?_; intro _; obtain ⟨c229, u77, h⟩ := ob1_ok h; refine clg_XDSrt [(58, 220)] [] [] [(220, ⟨0, some ⟨37, 3, false, c229.map cGStep⟩⟩)] (.tup []) rfl rfl (A_s_rotateCmpFunc_Step g a0 v210 a2 (IntKind.i64.wrap ((IntKind.i64.wrap ((IntKind.i64.wrap (Int.fdiv (IntKind.u64.wrap (IntKind.i64.wrap (a1 + a3))) 2)) + a2)) - v210)) a4 (.clo (.func fa4) sa4 qa4) hFa4 ⟨_, _, _, rfl⟩ ha4 u77) ?_; obtain ⟨q78, h⟩ := grd_ok h; intro _; refine dr_XDSrt ?_; refine ⟨c229, (Option.some.inj h).symm, ?_⟩; exact ca_XDSrt
                · refine aSk ?_; refine ⟨a0, (Option.some.inj h).symm, ?_⟩; exact ca_XDSrt
              · intro _; refine dr_XDSrt ?_; refine aCd ?_; intro _; refine litF ?_; refine aSk ?_; refine ⟨a0, (Option.some.inj h).symm, ?_⟩; exact ca_XDSrt
            · rintro v227 ho; have ho := ho.symm; subst ho; intro _; replace h := hK74; obtain ⟨o79, h, hK80⟩ := ob1_ok h; refine awp_cut (α := List GStep) (fun v231 => mkG 220 225 [(0, .own 220 0 0 v231.length), (3, .c (.int .i64 a3)), (4, .clo (.func fa4) sa4 qa4), (18, .c (.int .i64 (IntKind.i64.wrap (Int.fdiv (IntKind.u64.wrap (IntKind.i64.wrap (a1 + a3))) 2)))), (24, .c (.int .i64 (IntKind.i64.wrap ((IntKind.i64.wrap ((IntKind.i64.wrap (Int.fdiv (IntKind.u64.wrap (IntKind.i64.wrap (a1 + a3))) 2)) + a2)) - v210))))] [(220, ⟨37, 3, false, v231.map cGStep⟩)]) (fun v => o79 = v) ?_ ?_
              · refine aSq ?_; refine aRg ?_; intro _; refine spl h (fun c81 h => ?_) (fun c81 h => ?_)
                · intro _; refine dr_XDSrt ?_; refine aCd ?_; intro _; refine spl h (fun c82 h => ?_) (fun c82 h => ?_)
                  · refine aRg ?_; intro _; obtain ⟨c233, u83, h⟩ := ob1_ok h; refine clg_XDSrt [(220, 220)] [] [] [(220, ⟨0, some ⟨37, 3, false, c233.map cGStep⟩⟩)] (.tup []) rfl rfl (ih v227 a1 v210 (IntKind.i64.wrap (Int.fdiv (IntKind.u64.wrap (IntKind.i64.wrap (a1 + a3))) 2)) a4 (.clo (.func fa4) sa4 qa4) hFa4 ⟨_, _, _, rfl⟩ ha4 u83) ?_; obtain ⟨q84, h⟩ := grd_ok h; intro _; refine dr_XDSrt ?_; refine ⟨c233, (Option.some.inj h).symm, ?_⟩; exact ca_XDSrt
                  · refine aSk ?_; refine ⟨v227, (Option.some.inj h).symm, ?_⟩; exact ca_XDSrt
                · intro _; refine dr_XDSrt ?_; refine aCd ?_; intro _; refine litF ?_; refine aSk ?_; refine ⟨v227, (Option.some.inj h).symm, ?_⟩; exact ca_XDSrt
              · rintro v231 ho; have ho := ho.symm; subst ho; intro _; replace h := hK80; refine aSq ?_; refine aRg ?_; intro _; refine spl h (fun c85 h => ?_) (fun c85 h => ?_)
                · intro _; refine dr_XDSrt ?_; refine aCd ?_; intro _; refine spl h (fun c86 h => ?_) (fun c86 h => ?_)
                  · refine aRg ?_; intro _; obtain ⟨c234, u87, h⟩ := ob1_ok h; refine clg_XDSrt [(220, 220)] [] [] [(220, ⟨0, some ⟨37, 3, false, c234.map cGStep⟩⟩)] (.tup []) rfl rfl (ih v231 (IntKind.i64.wrap (Int.fdiv (IntKind.u64.wrap (IntKind.i64.wrap (a1 + a3))) 2)) (IntKind.i64.wrap ((IntKind.i64.wrap ((IntKind.i64.wrap (Int.fdiv (IntKind.u64.wrap (IntKind.i64.wrap (a1 + a3))) 2)) + a2)) - v210)) a3 a4 (.clo (.func fa4) sa4 qa4) hFa4 ⟨_, _, _, rfl⟩ ha4 u87) ?_; obtain ⟨q88, h⟩ := grd_ok h; intro _; refine dr_XDSrt ?_; intro _; obtain rfl := inj1 h; all_goals (refine Exists.intro [] (And.intro rfl (And.intro ?_ ?_))); all_goals (exact zg_XDSrt)
                  · refine aSk ?_; intro _; obtain rfl := inj1 h; all_goals (refine Exists.intro [] (And.intro rfl (And.intro ?_ ?_))); all_goals (exact zg_XDSrt)
                · intro _; refine dr_XDSrt ?_; refine aCd ?_; intro _; refine litF ?_; refine aSk ?_; intro _; obtain rfl := inj1 h; all_goals (refine Exists.intro [] (And.intro rfl (And.intro ?_ ?_))); all_goals (exact zg_XDSrt)
def M_s_stableCmpFunc_Step_L1 (a1 : Int) (a2 : GStep → GStep → Option Int) (g : Nat) : Nat → Int → Int → (List GStep) → Option (Int × (List GStep))
  | 0, _, _, _ => none
  | k22 + 1, v19, v20, v21 =>
    sel (decide (v20 ≤ a1))
     (ob1 (M_s_insertionSortCmpFunc_Step g v21 v19 v20 a2) (fun c23 =>
       grd (c23.length = v21.length) (M_s_stableCmpFunc_Step_L1 a1 a2 g k22 v20 (IntKind.i64.wrap (v20 + 20)) c23)))
     (some (v19, v21))
def M_s_stableCmpFunc_Step_L2 (a1 : Int) (a2 : GStep → GStep → Option Int) (g : Nat) (v75 : Int) : Nat → Int → Int → (List GStep) → Option (Int × (List GStep))
  | 0, _, _, _ => none
  | k99 + 1, v96, v97, v98 =>
    sel (decide (v97 ≤ a1))
     (ob1 (M_s_symMergeCmpFunc_Step g v98 v96 (IntKind.i64.wrap (v96 + v75)) v97 a2) (fun c100 =>
       grd (c100.length = v98.length) (M_s_stableCmpFunc_Step_L2 a1 a2 g v75 k99 v97 (IntKind.i64.wrap (v97 + (IntKind.i64.wrap (2 * v75)))) c100)))
     (some (v96, v98))
def M_s_stableCmpFunc_Step_L3 (a1 : Int) (a2 : GStep → GStep → Option Int) (g : Nat) : Nat → Int → (List GStep) → Option (List GStep)
  | 0, _, _ => none
  | k77 + 1, v75, v76 =>
    sel (decide (v75 < a1))
     (ob1 (M_s_stableCmpFunc_Step_L2 a1 a2 g v75 g 0 (IntKind.i64.wrap (2 * v75)) v76 : Option (Int × (List GStep)))
       (fun (v88, v89) => sel (decide ((IntKind.i64.wrap (v88 + v75)) < a1))
          (ob1 (M_s_symMergeCmpFunc_Step g v89 v88 (IntKind.i64.wrap (v88 + v75)) a1 a2) (fun c101 =>
            grd (c101.length = v89.length) (M_s_stableCmpFunc_Step_L3 a1 a2 g k77 (IntKind.i64.wrap (v75 * 2)) c101)))
          (M_s_stableCmpFunc_Step_L3 a1 a2 g k77 (IntKind.i64.wrap (v75 * 2)) v89)))
     (some v76)
def M_s_stableCmpFunc_Step (g : Nat) (a0 : List GStep) (a1 : Int) (a2 : GStep → GStep → Option Int) : Option (List GStep) :=
  ob1 (M_s_stableCmpFunc_Step_L1 a1 a2 g g 0 20 a0 : Option (Int × (List GStep)))
   (fun (v11, v12) => ob1 (M_s_insertionSortCmpFunc_Step g v12 v11 a1 a2) (fun c24 =>
      grd (c24.length = v12.length) (M_s_stableCmpFunc_Step_L3 a1 a2 g g 20 c24)))
set_option maxHeartbeats 16000000 in
set_option maxRecDepth 100000 in
theorem A_s_stableCmpFunc_Step (g : Nat) (a0 : List GStep) (a1 : Int) (a2 : GStep → GStep → Option Int) (Fa2 : AV) (hFa2 : Fr Fa2) (ea2 : ∃ f fs cap, Fa2 = .clo (.func f) fs cap) (ha2 : ∀ (x0 : GStep) (x1 : GStep) (y0 : Int), a2 x0 x1 = some y0 → CCl cx Fa2 [.agg [.c (.int .i64 x0.At), .c (.string x0.Name), .sl 1 (x0.Args.map cS)], .agg [.c (.int .i64 x1.At), .c (.string x1.Name), .sl 1 (x1.Args.map cS)]] (.c (.int .i64 y0))) {r1 : List GStep} (h : M_s_stableCmpFunc_Step g a0 a1 a2 = some r1) : ACallG cx 60 [.own 63 0 0 a0.length, .c (.int .i64 a1), Fa2] [(63, ⟨37, 3, false, a0.map cGStep⟩)] [63] (.tup []) [(63, ⟨37, 3, false, r1.map cGStep⟩)] := by
  obtain ⟨fa2, sa2, qa2, rfl⟩ := ea2; refine acallg_of 66 Tryd.func60 rfl (by decide) rfl (Nat.le_of_ble_eq_true rfl) rfl rfl ?_; intro _; unfold M_s_stableCmpFunc_Step at h; refine aSq ?_; refine aRg ?_; intro _; refine dr_XDSrt ?_; refine aSq ?_; refine aRg ?_; intro _; refine dr_XDSrt ?_; obtain ⟨o1, h, hK2⟩ := ob1_ok h; refine awp_cut (α := Int × (List GStep)) (fun (v11, v12) => mkG 63 66 [(0, .own 63 0 0 v12.length), (1, .c (.int .i64 a1)), (2, .clo (.func fa2) sa2 qa2), (6, .c (.int .i64 20)), (7, .c (.int .i64 v11))] [(63, ⟨37, 3, false, v12.map cGStep⟩)]) (fun v => o1 = v) ?_ ?_
  · refine aBk ?_; refine awp_loop (α := Nat × Int × Int × (List GStep)) (fun x => mkG 63 66 [(0, .own 63 0 0 x.2.2.2.length), (1, .c (.int .i64 a1)), (2, .clo (.func fa2) sa2 qa2), (6, .c (.int .i64 20)), (7, .c (.int .i64 x.2.1)), (8, .c (.int .i64 x.2.2.1))] [(63, ⟨37, 3, false, x.2.2.2.map cGStep⟩)]) (fun x => M_s_stableCmpFunc_Step_L1 a1 a2 g x.1 x.2.1 x.2.2.1 x.2.2.2 = some o1) (fun x => x.1) (g, 0, 20, a0) h ?_ ?_
    · exact ca_XDSrt
    · intro x3 h; intro _; obtain ⟨k22, m4, h⟩ := succ_of (f := fun n => M_s_stableCmpFunc_Step_L1 a1 a2 g n x3.2.1 x3.2.2.1 x3.2.2.2) rfl h; replace h : M_s_stableCmpFunc_Step_L1 a1 a2 g (k22 + 1) x3.2.1 x3.2.2.1 x3.2.2.2 = some o1 := h; rw [M_s_stableCmpFunc_Step_L1] at h; refine aSq ?_; refine aSq ?_; refine aRg ?_; intro _; refine dr_XDSrt ?_; refine aCd ?_; intro _; refine spl h (fun c5 h => ?_) (fun c5 h => ?_)
      · refine aSk ?_; refine aBk ?_; refine aSq ?_; refine aRg ?_; intro _; obtain ⟨c23, u6, h⟩ := ob1_ok h; refine clg_XDSrt [(53, 63)] [] [] [(63, ⟨0, some ⟨37, 3, false, c23.map cGStep⟩⟩)] (.tup []) rfl rfl (A_s_insertionSortCmpFunc_Step g x3.2.2.2 x3.2.1 x3.2.2.1 a2 (.clo (.func fa2) sa2 qa2) hFa2 ⟨_, _, _, rfl⟩ ha2 u6) ?_; obtain ⟨q7, h⟩ := grd_ok h; intro _; refine dr_XDSrt ?_; refine aSq ?_; refine aRg ?_; intro _; refine dr_XDSrt ?_; refine aRg ?_; intro _; refine dr_XDSrt ?_; refine ⟨(k22, x3.2.2.1, (IntKind.i64.wrap (x3.2.2.1 + 20)), c23), h, ltS m4, ?_⟩; exact ca_XDSrt
      · refine aEx ?_; refine ⟨(x3.2.1, x3.2.2.2), (Option.some.inj h).symm, ?_⟩; exact ca_XDSrt
  · rintro ⟨v11, v12⟩ ho; have ho := ho.symm; subst ho; intro _; replace h := hK2; refine aSq ?_; refine aRg ?_; intro _; obtain ⟨c24, u8, h⟩ := ob1_ok h; refine clg_XDSrt [(53, 63)] [] [] [(63, ⟨0, some ⟨37, 3, false, c24.map cGStep⟩⟩)] (.tup []) rfl rfl (A_s_insertionSortCmpFunc_Step g v12 v11 a1 a2 (.clo (.func fa2) sa2 qa2) hFa2 ⟨_, _, _, rfl⟩ ha2 u8) ?_; obtain ⟨q9, h⟩ := grd_ok h; intro _; refine dr_XDSrt ?_; refine aBk ?_; refine awp_loop (α := Nat × Int × (List GStep)) (fun x => mkG 63 66 [(0, .own 63 0 0 x.2.2.length), (1, .c (.int .i64 a1)), (2, .clo (.func fa2) sa2 qa2), (6, .c (.int .i64 x.2.1))] [(63, ⟨37, 3, false, x.2.2.map cGStep⟩)]) (fun x => M_s_stableCmpFunc_Step_L3 a1 a2 g x.1 x.2.1 x.2.2 = some r1) (fun x => x.1) (g, 20, c24) h ?_ ?_
    · exact ca_XDSrt
    · intro x10 h; intro _; obtain ⟨k77, m11, h⟩ := succ_of (f := fun n => M_s_stableCmpFunc_Step_L3 a1 a2 g n x10.2.1 x10.2.2) rfl h; replace h : M_s_stableCmpFunc_Step_L3 a1 a2 g (k77 + 1) x10.2.1 x10.2.2 = some r1 := h; rw [M_s_stableCmpFunc_Step_L3] at h; refine aSq ?_; refine aSq ?_; refine aRg ?_; intro _; refine dr_XDSrt ?_; refine aCd ?_; intro _; refine spl h (fun c12 h => ?_) (fun c12 h => ?_)
      · refine aSk ?_; refine aBk ?_; refine aSq ?_; refine aRg ?_; intro _; refine dr_XDSrt ?_; obtain ⟨o13, h, hK14⟩ := ob1_ok h; refine awp_cut (α := Int × (List GStep)) (fun (v88, v89) => mkG 63 66 [(0, .own 63 0 0 v89.length), (1, .c (.int .i64 a1)), (2, .clo (.func fa2) sa2 qa2), (6, .c (.int .i64 x10.2.1)), (7, .c (.int .i64 v88))] [(63, ⟨37, 3, false, v89.map cGStep⟩)]) (fun v => o13 = v) ?_ ?_
        · refine aBk ?_; refine awp_loop (α := Nat × Int × Int × (List GStep)) (fun x => mkG 63 66 [(0, .own 63 0 0 x.2.2.2.length), (1, .c (.int .i64 a1)), (2, .clo (.func fa2) sa2 qa2), (6, .c (.int .i64 x10.2.1)), (7, .c (.int .i64 x.2.1)), (8, .c (.int .i64 x.2.2.1))] [(63, ⟨37, 3, false, x.2.2.2.map cGStep⟩)]) (fun x => M_s_stableCmpFunc_Step_L2 a1 a2 g x10.2.1 x.1 x.2.1 x.2.2.1 x.2.2.2 = some o13) (fun x => x.1) (g, 0, (IntKind.i64.wrap (2 * x10.2.1)), x10.2.2) h ?_ ?_
          · exact ca_XDSrt
          · intro x15 h; intro _; obtain ⟨k99, m16, h⟩ := succ_of (f := fun n => M_s_stableCmpFunc_Step_L2 a1 a2 g x10.2.1 n x15.2.1 x15.2.2.1 x15.2.2.2) rfl h; replace h : M_s_stableCmpFunc_Step_L2 a1 a2 g x10.2.1 (k99 + 1) x15.2.1 x15.2.2.1 x15.2.2.2 = some o13 := h; rw [M_s_stableCmpFunc_Step_L2] at h; refine aSq ?_; refine aSq ?_; refine aRg ?_; intro _; refine dr_XDSrt ?_; refine aCd ?_; intro _; refine spl h (fun c17 h => ?_) (fun c17 h => ?_)
            · refine aSk ?_; refine aBk ?_; refine aSq ?_; refine aRg ?_; intro _; obtain ⟨c100, u18, h⟩ := ob1_ok h; refine clg_XDSrt [(220, 63)] [] [] [(63, ⟨0, some ⟨37, 3, false, c100.map cGStep⟩⟩)] (.tup []) rfl rfl (A_s_symMergeCmpFunc_Step g x15.2.2.2 x15.2.1 (IntKind.i64.wrap (x15.2.1 + x10.2.1)) x15.2.2.1 a2 (.clo (.func fa2) sa2 qa2) hFa2 ⟨_, _, _, rfl⟩ ha2 u18) ?_; obtain ⟨q19, h⟩ := grd_ok h; intro _; refine dr_XDSrt ?_; refine aSq ?_; refine aRg ?_; intro _; refine dr_XDSrt ?_; refine aRg ?_; intro _; refine dr_XDSrt ?_; refine ⟨(k99, x15.2.2.1, (IntKind.i64.wrap (x15.2.2.1 + (IntKind.i64.wrap (2 * x10.2.1)))), c100), h, ltS m16, ?_⟩; exact ca_XDSrt
            · refine aEx ?_; refine ⟨(x15.2.1, x15.2.2.2), (Option.some.inj h).symm, ?_⟩; exact ca_XDSrt
        · rintro ⟨v88, v89⟩ ho; have ho := ho.symm; subst ho; intro _; replace h := hK14; refine aSq ?_; refine aSq ?_; refine aRg ?_; intro _; refine dr_XDSrt ?_; refine aSq ?_; refine aRg ?_; intro _; refine dr_XDSrt ?_; refine aCd ?_; intro _; refine spl h (fun c20 h => ?_) (fun c20 h => ?_)
          · refine aRg ?_; intro _; obtain ⟨c101, u21, h⟩ := ob1_ok h; refine clg_XDSrt [(220, 63)] [] [] [(63, ⟨0, some ⟨37, 3, false, c101.map cGStep⟩⟩)] (.tup []) rfl rfl (A_s_symMergeCmpFunc_Step g v89 v88 (IntKind.i64.wrap (v88 + x10.2.1)) a1 a2 (.clo (.func fa2) sa2 qa2) hFa2 ⟨_, _, _, rfl⟩ ha2 u21) ?_; obtain ⟨q22, h⟩ := grd_ok h; intro _; refine dr_XDSrt ?_; refine aRg ?_; intro _; refine dr_XDSrt ?_; refine ⟨(k77, (IntKind.i64.wrap (x10.2.1 * 2)), c101), h, ltS m11, ?_⟩; exact ca_XDSrt
          · refine aSk ?_; refine aRg ?_; intro _; refine dr_XDSrt ?_; refine ⟨(k77, (IntKind.i64.wrap (x10.2.1 * 2)), v89), h, ltS m11, ?_⟩; exact ca_XDSrt
      · refine aEx ?_; intro _; obtain rfl := inj1 h; all_goals (refine Exists.intro [] (And.intro rfl (And.intro ?_ ?_))); all_goals (exact zg_XDSrt)
def M_s_SortStableFunc_Step (g : Nat) (a0 : List GStep) (a1 : GStep → GStep → Option Int) : Option (List GStep) :=
  ob1 (M_s_stableCmpFunc_Step g a0 ((a0.length : Nat) : Int) a1) (fun c1 =>
   grd (c1.length = a0.length) (some c1))
set_option maxHeartbeats 16000000 in
set_option maxRecDepth 100000 in
theorem A_s_SortStableFunc_Step (g : Nat) (a0 : List GStep) (a1 : GStep → GStep → Option Int) (Fa1 : AV) (hFa1 : Fr Fa1) (ea1 : ∃ f fs cap, Fa1 = .clo (.func f) fs cap) (ha1 : ∀ (x0 : GStep) (x1 : GStep) (y0 : Int), a1 x0 x1 = some y0 → CCl cx Fa1 [.agg [.c (.int .i64 x0.At), .c (.string x0.Name), .sl 1 (x0.Args.map cS)], .agg [.c (.int .i64 x1.At), .c (.string x1.Name), .sl 1 (x1.Args.map cS)]] (.c (.int .i64 y0))) {r1 : List GStep} (h : M_s_SortStableFunc_Step g a0 a1 = some r1) : ACallG cx 30 [.own 9 0 0 a0.length, Fa1] [(9, ⟨37, 3, false, a0.map cGStep⟩)] [9] (.tup []) [(9, ⟨37, 3, false, r1.map cGStep⟩)] := by
  obtain ⟨fa1, sa1, qa1, rfl⟩ := ea1; refine acallg_of 11 Tryd.func30 rfl (by decide) rfl (Nat.le_of_ble_eq_true rfl) rfl rfl ?_; intro _; unfold M_s_SortStableFunc_Step at h; refine aRg ?_; intro _; obtain ⟨c1, u1, h⟩ := ob1_ok h; refine clg_XDSrt [(63, 9)] [] [] [(9, ⟨0, some ⟨37, 3, false, c1.map cGStep⟩⟩)] (.tup []) rfl rfl (A_s_stableCmpFunc_Step g a0 ((a0.length : Nat) : Int) a1 (.clo (.func fa1) sa1 qa1) hFa1 ⟨_, _, _, rfl⟩ ha1 u1) ?_; obtain ⟨q2, h⟩ := grd_ok h; intro _; refine dr_XDSrt ?_; intro _; obtain rfl := inj1 h; all_goals (refine Exists.intro [] (And.intro rfl (And.intro ?_ ?_))); all_goals (exact zg_XDSrt)
def M_cmp_isNaN_string (a0 : ByteArray) : Option (Bool) :=
  some (!(a0.toList == a0.toList))
set_option maxHeartbeats 16000000 in
set_option maxRecDepth 100000 in
theorem A_cmp_isNaN_string (a0 : ByteArray) {r1 : Bool} (h : M_cmp_isNaN_string a0 = some r1) : ACall cx 83 [.c (.string a0)] (.c (.bool r1)) := by
  refine aOf Tryd.func83 rfl (by decide) rfl (Nat.le_of_ble_eq_true rfl) ?_; intro _; unfold M_cmp_isNaN_string at h; refine aSq ?_; refine aRg ?_; intro _; refine dr_XDSrt ?_; refine aSq ?_; refine aRg ?_; intro _; refine dr_XDSrt ?_; refine aRt ?_; intro _; obtain rfl := inj1 h; exact ca_XDSrt
def M_cmp_Compare_string (a0 : ByteArray) (a1 : ByteArray) : Option (Int) :=
  ob1 (M_cmp_isNaN_string a0) (fun z1 =>
   ob1 (M_cmp_isNaN_string a1) (fun z2 =>
    sel z1
     (sel z2
       (some 0)
       (some (-1)))
     (sel z2
       (some 1)
       (sel (Op.bytesLess a0.toList a1.toList)
         (some (-1))
         (sel (!(Op.bytesLess a0.toList a1.toList || a0.toList == a1.toList))
           (some 1)
           (some 0))))))
set_option maxHeartbeats 16000000 in
set_option maxRecDepth 100000 in
theorem A_cmp_Compare_string (a0 : ByteArray) (a1 : ByteArray) {r1 : Int} (h : M_cmp_Compare_string a0 a1 = some r1) : ACall cx 62 [.c (.string a0), .c (.string a1)] (.c (.int .i64 r1)) := by
  refine aOf Tryd.func62 rfl (by decide) rfl (Nat.le_of_ble_eq_true rfl) ?_; intro _; unfold M_cmp_Compare_string at h; refine aSq ?_; refine aRg ?_; intro _; refine dr_XDSrt ?_; refine aSq ?_; refine aRg ?_; intro _; obtain ⟨z1, u1, h⟩ := ob1_ok h; refine cl_XDSrt rfl (A_cmp_isNaN_string a0 u1) ?_; intro _; refine dr_XDSrt ?_; refine aSq ?_; refine aRg ?_; intro _; obtain ⟨z2, u2, h⟩ := ob1_ok h; refine cl_XDSrt rfl (A_cmp_isNaN_string a1 u2) ?_; intro _; refine dr_XDSrt ?_; refine aSq ?_; refine aSq ?_; refine aRg ?_; intro _; refine dr_XDSrt ?_; refine aCd ?_; intro _; refine spl h (fun c3 h => ?_) (fun c3 h => ?_)
  · refine aSq ?_; refine aSq ?_; refine aRg ?_; intro _; refine dr_XDSrt ?_; refine aCd ?_; intro _; refine spl h (fun c4 h => ?_) (fun c4 h => ?_)
    · refine aSq ?_; refine aRg ?_; intro _; refine dr_XDSrt ?_; refine aRt ?_; intro _; obtain rfl := inj1 h; exact ca_XDSrt
    · refine aSk ?_; refine aSq ?_; refine aRg ?_; intro _; refine dr_XDSrt ?_; refine aRt ?_; intro _; obtain rfl := inj1 h; exact ca_XDSrt
  · refine aSk ?_; refine aSq ?_; refine aSq ?_; refine aRg ?_; intro _; refine dr_XDSrt ?_; refine aCd ?_; intro _; refine spl h (fun c5 h => ?_) (fun c5 h => ?_)
    · refine aSq ?_; refine aRg ?_; intro _; refine dr_XDSrt ?_; refine aRt ?_; intro _; obtain rfl := inj1 h; exact ca_XDSrt
    · refine aSk ?_; refine aSq ?_; refine aSq ?_; refine aRg ?_; intro _; refine dr_XDSrt ?_; refine aCd ?_; intro _; refine spl h (fun c6 h => ?_) (fun c6 h => ?_)
      · refine aSq ?_; refine aRg ?_; intro _; refine dr_XDSrt ?_; refine aRt ?_; intro _; obtain rfl := inj1 h; exact ca_XDSrt
      · refine aSk ?_; refine aSq ?_; refine aSq ?_; refine aRg ?_; intro _; refine dr_XDSrt ?_; refine aCd ?_; intro _; refine spl h (fun c7 h => ?_) (fun c7 h => ?_)
        · refine aSq ?_; refine aRg ?_; intro _; refine dr_XDSrt ?_; refine aRt ?_; intro _; obtain rfl := inj1 h; exact ca_XDSrt
        · refine aSk ?_; refine aSq ?_; refine aRg ?_; intro _; refine dr_XDSrt ?_; refine aRt ?_; intro _; obtain rfl := inj1 h; exact ca_XDSrt
def M_s_Compare_string_L1 (a0 : List ByteArray) (a1 : List ByteArray) : Nat → Int → Option (Unit ⊕ Int)
  | 0, _ => none
  | k23 + 1, v22 =>
    sel (decide (v22 < ((a0.map cS).length : Int)))
     (ix a0 v22 (fun y24 =>
       sel (decide (v22 ≥ ((a1.map cS).length : Int)))
        (some (.inr 1))
        (ix a1 v22 (fun y25 =>
          ob1 (M_cmp_Compare_string y24 y25) (fun z26 =>
           sel (z26 != 0)
            (some (.inr z26))
            (M_s_Compare_string_L1 a0 a1 k23 (IntKind.i64.wrap (v22 + 1))))))))
     (some (.inl ()))
def M_s_Compare_string (a0 : List ByteArray) (a1 : List ByteArray) : Option (Int) :=
  ob1 (M_s_Compare_string_L1 a0 a1 ((((a0.map cS).length : Int)).toNat + 1) 0 : Option (Unit ⊕ Int))
   (osum
   (fun _ => sel (decide (((a0.map cS).length : Int) < ((a1.map cS).length : Int)))
      (some (-1))
      (some 0))
   (fun r13 => some r13))
set_option maxHeartbeats 16000000 in
set_option maxRecDepth 100000 in
theorem A_s_Compare_string (a0 : List ByteArray) (a1 : List ByteArray) {r1 : Int} (h : M_s_Compare_string a0 a1 = some r1) : ACall cx 33 [.sl 1 (a0.map cS), .sl 1 (a1.map cS)] (.c (.int .i64 r1)) := by
  refine aOf Tryd.func33 rfl (by decide) rfl (Nat.le_of_ble_eq_true rfl) ?_; intro _; unfold M_s_Compare_string at h; refine aSq ?_; refine aRg ?_; intro _; refine dr_XDSrt ?_; obtain ⟨o1, h, hK2⟩ := ob1_ok h; refine awp_cut (α := Unit) (fun _ => mkS 36 [(0, .sl 1 (a0.map cS)), (1, .sl 1 (a1.map cS))] []) (fun v => o1 = (.inl v)) ?_ ?_
  · refine aSq ?_; refine aRg ?_; intro _; refine dr_XDSrt ?_; refine aBk ?_; refine awp_loop (α := Nat × Int) (fun x => mkS 36 [(0, .sl 1 (a0.map cS)), (1, .sl 1 (a1.map cS)), (9, .sl 1 (a0.map cS)), (10, .c (.int .i64 ((a0.map cS).length : Int))), (11, .c (.int .i64 x.2))] []) (fun x => M_s_Compare_string_L1 a0 a1 x.1 x.2 = some o1) (fun x => x.1) ((((a0.map cS).length : Int)).toNat + 1, 0) h ?_ ?_
    · exact ca_XDSrt
    · intro x3 h; intro _; obtain ⟨k23, m4, h⟩ := succ_of (f := fun n => M_s_Compare_string_L1 a0 a1 n x3.2) rfl h; replace h : M_s_Compare_string_L1 a0 a1 (k23 + 1) x3.2 = some o1 := h; rw [M_s_Compare_string_L1] at h; refine aSq ?_; refine aRg ?_; intro _; refine dr_XDSrt ?_; refine aSq ?_; refine aCd ?_; intro _; refine spl h (fun c5 h => ?_) (fun c5 h => ?_)
      · refine aSk ?_; refine aSq ?_; refine aBk ?_; refine aSq ?_; refine aRg ?_; intro _; obtain ⟨y24, w6, q7, h⟩ := ix_ok h; refine Exists.intro (cS y24) (And.intro (map_at' w6) ?_); intro _; refine pr_XDSrt ?_; refine dr_XDSrt ?_; refine aSq ?_; refine aSq ?_; refine aRg ?_; intro _; refine dr_XDSrt ?_; refine aCd ?_; intro _; refine spl h (fun c8 h => ?_) (fun c8 h => ?_)
        · refine aSq ?_; refine aRg ?_; intro _; refine dr_XDSrt ?_; refine aRt ?_; have j9 := Option.some.inj h; subst j9; replace h := (osum_r hK2); intro _; obtain rfl := inj1 h; exact ca_XDSrt
        · refine aSk ?_; refine aSq ?_; refine aRg ?_; intro _; obtain ⟨y25, w10, q11, h⟩ := ix_ok h; refine Exists.intro (cS y25) (And.intro (map_at' w10) ?_); intro _; refine pr_XDSrt ?_; refine dr_XDSrt ?_; refine aSq ?_; refine aRg ?_; intro _; obtain ⟨z26, u12, h⟩ := ob1_ok h; refine cl_XDSrt rfl (A_cmp_Compare_string y24 y25 u12) ?_; intro _; refine dr_XDSrt ?_; refine aSq ?_; refine aRg ?_; intro _; refine dr_XDSrt ?_; refine aCd ?_; intro _; refine spl h (fun c13 h => ?_) (fun c13 h => ?_)
          · refine aSq ?_; refine aRg ?_; intro _; refine dr_XDSrt ?_; refine aRt ?_; have j14 := Option.some.inj h; subst j14; replace h := (osum_r hK2); intro _; obtain rfl := inj1 h; exact ca_XDSrt
          · refine aSk ?_; refine aRg ?_; intro _; refine dr_XDSrt ?_; refine ⟨(k23, (IntKind.i64.wrap (x3.2 + 1))), h, ltS m4, ?_⟩; exact ca_XDSrt
      · refine aEx ?_; refine ⟨(), (Option.some.inj h).symm, ?_⟩; exact ca_XDSrt
  · rintro _ ho; have ho := ho.symm; subst ho; intro _; replace h := (osum_l hK2); refine aSq ?_; refine aSq ?_; refine aRg ?_; intro _; refine dr_XDSrt ?_; refine aCd ?_; intro _; refine spl h (fun c15 h => ?_) (fun c15 h => ?_)
    · refine aSq ?_; refine aRg ?_; intro _; refine dr_XDSrt ?_; refine aRt ?_; intro _; obtain rfl := inj1 h; exact ca_XDSrt
    · refine aSk ?_; refine aSq ?_; refine aRg ?_; intro _; refine dr_XDSrt ?_; refine aRt ?_; intro _; obtain rfl := inj1 h; exact ca_XDSrt
def M_planfile_Sort_1 (a0 : GStep) (a1 : GStep) : Option (Int) :=
  sel (a0.At != a1.At)
   (sel (decide (a0.At < a1.At))
     (some (-1))
     (some 1))
   (ob1 (M_strings_Compare a0.Name a1.Name) (fun z1 =>
     sel (z1 != 0)
      (some z1)
      (ob1 (M_s_Compare_string a0.Args a1.Args) (fun z2 =>
        some z2))))
set_option maxHeartbeats 16000000 in
set_option maxRecDepth 100000 in
theorem A_planfile_Sort_1 (a0 : GStep) (a1 : GStep) {r1 : Int} (h : M_planfile_Sort_1 a0 a1 = some r1) : ACall cx 31 [.agg [.c (.int .i64 a0.At), .c (.string a0.Name), .sl 1 (a0.Args.map cS)], .agg [.c (.int .i64 a1.At), .c (.string a1.Name), .sl 1 (a1.Args.map cS)]] (.c (.int .i64 r1)) := by
  refine aOf Tryd.func31 rfl (by decide) rfl (Nat.le_of_ble_eq_true rfl) ?_; intro _; unfold M_planfile_Sort_1 at h; refine aSq ?_; refine aRg ?_; intro _; refine dr_XDSrt ?_; refine aSq ?_; refine aSq ?_; refine aRg ?_; intro _; refine dr_XDSrt ?_; refine aCd ?_; intro _; refine spl h (fun c1 h => ?_) (fun c1 h => ?_)
  · refine aSq ?_; refine aSq ?_; refine aRg ?_; intro _; refine dr_XDSrt ?_; refine aCd ?_; intro _; refine spl h (fun c2 h => ?_) (fun c2 h => ?_)
    · refine aSq ?_; refine aRg ?_; intro _; refine dr_XDSrt ?_; refine aRt ?_; intro _; obtain rfl := inj1 h; exact ca_XDSrt
    · refine aSk ?_; refine aSq ?_; refine aRg ?_; intro _; refine dr_XDSrt ?_; refine aRt ?_; intro _; obtain rfl := inj1 h; exact ca_XDSrt
  · refine aSk ?_; refine aSq ?_; refine aSq ?_; refine aRg ?_; intro _; obtain ⟨z1, u3, h⟩ := ob1_ok h; refine cl_XDSrt rfl (A_strings_Compare a0.Name a1.Name u3) ?_; intro _; refine dr_XDSrt ?_; refine aSq ?_; refine aRg ?_; intro _; refine dr_XDSrt ?_; refine aCd ?_; intro _; refine spl h (fun c4 h => ?_) (fun c4 h => ?_)
    · refine aSq ?_; refine aRg ?_; intro _; refine dr_XDSrt ?_; refine aRt ?_; intro _; obtain rfl := inj1 h; exact ca_XDSrt
    · refine aSk ?_; refine aSq ?_; refine aRg ?_; intro _; obtain ⟨z2, u5, h⟩ := ob1_ok h; refine cl_XDSrt rfl (A_s_Compare_string a0.Args a1.Args u5) ?_; intro _; refine dr_XDSrt ?_; refine aRt ?_; intro _; obtain rfl := inj1 h; exact ca_XDSrt
def M_planfile_Sort_L1 (a0 : List GStep) : Nat → Int → (List GStep) → Option (List GStep)
  | 0, _, _ => none
  | k22 + 1, v20, v21 =>
    sel (decide (v20 < ((a0.map cGStep).length : Int)))
     (ix a0 v20 (fun y23 =>
       ob1 (M_cloneS y23.Args) (fun z24 =>
        grd ((v21.length + 1) * 48 ≤ 140737488355328) (M_planfile_Sort_L1 a0 k22 (IntKind.i64.wrap (v20 + 1)) (v21 ++ [{ At := y23.At, Name := y23.Name, Args := z24 : GStep }])))))
     (some v21)
def M_planfile_Sort (g : Nat) (a0 : List GStep) : Option (List GStep) :=
  ob1 (M_planfile_Sort_L1 a0 ((((a0.map cGStep).length : Int)).toNat + 1) 0 [] : Option (List GStep))
   (fun v12 => ob1 (M_s_SortStableFunc_Step g v12 M_planfile_Sort_1) (fun c25 =>
      grd (c25.length = v12.length) (grd (v12.length ≤ 140737488355328) (some c25))))
set_option maxHeartbeats 16000000 in
set_option maxRecDepth 100000 in
theorem A_planfile_Sort (g : Nat) (a0 : List GStep) {r1 : List GStep} (h : M_planfile_Sort g a0 = some r1) : ACall cx 16 [.sl 3 (a0.map cGStep)] (.sl 3 (r1.map cGStep)) := by
  refine aOf Tryd.func16 rfl (by decide) rfl (Nat.le_of_ble_eq_true rfl) ?_; intro _; unfold M_planfile_Sort at h; refine aSq ?_; refine aRg ?_; intro _; refine dr_XDSrt ?_; refine aSq ?_; refine aRg ?_; intro _; refine dr_XDSrt ?_; obtain ⟨o1, h, hK2⟩ := ob1_ok h; refine awp_cut (α := List GStep) (fun v12 => mkS 27 [(3, .own 22 0 0 v12.length)] [(22, ⟨37, 3, false, v12.map cGStep⟩)]) (fun v => o1 = v) ?_ ?_
  · refine aSq ?_; refine aRg ?_; intro _; refine dr_XDSrt ?_; refine aBk ?_; refine awp_loop (α := Nat × Int × (List GStep)) (fun x => mkS 27 [(3, .own 22 0 0 x.2.2.length), (6, .sl 3 (a0.map cGStep)), (7, .c (.int .i64 ((a0.map cGStep).length : Int))), (8, .c (.int .i64 x.2.1))] [(22, ⟨37, 3, false, x.2.2.map cGStep⟩)]) (fun x => M_planfile_Sort_L1 a0 x.1 x.2.1 x.2.2 = some o1) (fun x => x.1) ((((a0.map cGStep).length : Int)).toNat + 1, 0, []) h ?_ ?_
    · exact ca_XDSrt
    · intro x3 h; intro _; obtain ⟨k22, m4, h⟩ := succ_of (f := fun n => M_planfile_Sort_L1 a0 n x3.2.1 x3.2.2) rfl h; replace h : M_planfile_Sort_L1 a0 (k22 + 1) x3.2.1 x3.2.2 = some o1 := h; rw [M_planfile_Sort_L1] at h; refine aSq ?_; refine aRg ?_; intro _; refine dr_XDSrt ?_; refine aSq ?_; refine aCd ?_; intro _; refine spl h (fun c5 h => ?_) (fun c5 h => ?_)
      · refine aSk ?_; refine aSq ?_; refine aBk ?_; refine aSq ?_; refine aRg ?_; intro _; obtain ⟨y23, w6, q7, h⟩ := ix_ok h; refine Exists.intro (cGStep y23) (And.intro (map_at' w6) ?_); intro _; refine pr_XDSrt ?_; refine dr_XDSrt ?_; refine aRg ?_; intro _; obtain ⟨z24, u8, h⟩ := ob1_ok h; refine cl_XDSrt rfl (A_cloneS y23.Args u8) ?_; intro _; obtain ⟨q9, h⟩ := grd_ok h; refine pl_XDSrt ?_; refine pl_XDSrt ?_; refine And.intro (by first | with_reducible assumption | (show (x3.2.2.length + 1) * 48 ≤ 140737488355328; with_reducible assumption) | omega | (simp; omega)) ?_; refine pe_XDSrt ?_; refine dr_XDSrt ?_; refine aRg ?_; intro _; refine dr_XDSrt ?_; refine ⟨(k22, (IntKind.i64.wrap (x3.2.1 + 1)), (x3.2.2 ++ [{ At := y23.At, Name := y23.Name, Args := z24 : GStep }])), h, ltS m4, ?_⟩; exact ca_XDSrt
      · refine aEx ?_; refine ⟨x3.2.2, (Option.some.inj h).symm, ?_⟩; exact ca_XDSrt
  · rintro v12 ho; have ho := ho.symm; subst ho; intro _; replace h := hK2; refine aSq ?_; refine aRg ?_; intro _; obtain ⟨c25, u10, h⟩ := ob1_ok h; refine clg_XDSrt [(9, 22)] [] [] [(22, ⟨0, some ⟨37, 3, false, c25.map cGStep⟩⟩)] (.tup []) rfl rfl (A_s_SortStableFunc_Step g v12 M_planfile_Sort_1 (.clo (.func 31) [] []) (Fr.clo FrC_nil FrE.h) ⟨_, _, _, rfl⟩ (fun x0 x1 y0 hx => ⟨31, [], _, rfl, A_planfile_Sort_1 x0 x1 hx⟩) u10) ?_; obtain ⟨q11, h⟩ := grd_ok h; intro _; refine dr_XDSrt ?_; refine aSq ?_; refine aRg ?_; intro _; refine dr_XDSrt ?_; refine aRt ?_; obtain ⟨q12, h⟩ := grd_ok h; intro _; obtain rfl := inj1 h; exact ca_XDSrt
end Go.Proofs.YtljekaadbabhkaaDoor.Am
/- Plain laws of texts: split at a byte, cut at a byte, words, and words for models. -/
namespace Go.Proofs.YtljekaadbabhkaaDoor.Am
open Go.RowKit

/-- the bytes of a text -/
abbrev bl (s : ByteArray) : List UInt8 := s.data.toList
def ofB (l : List UInt8) : ByteArray := ⟨l.toArray⟩
theorem bl_ofB (l : List UInt8) : bl (ofB l) = l := by simp [bl, ofB]
theorem ofB_bl (s : ByteArray) : ofB (bl s) = s := by obtain ⟨⟨l⟩⟩ := s; rfl
theorem bl_inj {s t : ByteArray} (h : bl s = bl t) : s = t := by rw [← ofB_bl s, ← ofB_bl t, h]
theorem bl_len (s : ByteArray) : (bl s).length = s.size := (Lib.size_eq s).symm
theorem toList_bl (s : ByteArray) : s.toList = bl s := ByteArray.toList_eq s
theorem bl_extract (s : ByteArray) (a b : Nat) : bl (s.extract a b) = ((bl s).drop a).take (b - a) := by rw [← toList_bl, Lib.extract_toList]
theorem bys_bl (s : ByteArray) : bys s = (bl s).map (fun c => (c.toNat : Int)) := rfl
theorem byt_bl (s : ByteArray) (n : Nat) (h : n < s.size) : byt s (n : Int) = (((bl s)[n]'(by rw [bl_len]; exact h)).toNat : Int) := by
  show ((s.data.getD ((n : Int)).toNat 0).toNat : Int) = _
  have h2 : n < s.data.size := h
  simp only [Int.toNat_natCast, Array.getD_eq_getD_getElem?, Array.getElem?_eq_getElem h2]
  simp

/-- split at a byte -/
def splitL (c : UInt8) : List UInt8 → List (List UInt8)
  | [] => [[]]
  | x :: r => if x = c then [] :: splitL c r else (x :: (splitL c r).headD []) :: (splitL c r).tail
theorem splitL_ne (c : UInt8) (l : List UInt8) : splitL c l ≠ [] := by
  cases l with
  | nil => simp [splitL]
  | cons x r => rw [splitL]; split <;> simp
theorem splitL_cons_ne {c x : UInt8} {r h : List UInt8} {t : List (List UInt8)} (hx : x ≠ c) (hr : splitL c r = h :: t) : splitL c (x :: r) = (x :: h) :: t := by
  rw [splitL, if_neg hx, hr]; rfl
theorem splitL_free {c : UInt8} : ∀ {l : List UInt8}, c ∉ l → splitL c l = [l]
  | [], _ => rfl
  | x :: r, h => splitL_cons_ne (fun e => h (by simp [e])) (splitL_free (fun hr => h (by simp [hr])))
theorem splitL_app {c : UInt8} : ∀ {a : List UInt8} {r : List UInt8}, c ∉ a → splitL c (a ++ c :: r) = a :: splitL c r
  | [], r, _ => by rw [List.nil_append, splitL, if_pos rfl]
  | x :: a, r, h => by
    rw [List.cons_append]
    exact splitL_cons_ne (fun e => h (by simp [e])) (splitL_app (fun hr => h (by simp [hr])))
/-- a first piece and what comes behind it -/
theorem splitL_cases (c : UInt8) (l : List UInt8) : (c ∉ l ∧ splitL c l = [l]) ∨ ∃ a r, c ∉ a ∧ l = a ++ c :: r ∧ splitL c l = a :: splitL c r := by
  by_cases h : c ∈ l
  · obtain ⟨a, r, e, ha⟩ := List.append_of_mem h |> fun ⟨a, r, e⟩ => (List.eq_append_cons_of_mem h)
    exact .inr ⟨a, r, ha, e, by rw [e]; exact splitL_app ha⟩
  · exact .inl ⟨h, splitL_free h⟩
theorem splitL_len_le (c : UInt8) (l : List UInt8) : (splitL c l).length ≤ l.length + 1 := by
  induction l with
  | nil => simp [splitL]
  | cons x r ih =>
    rw [splitL]
    split
    · simp; omega
    · cases hs : splitL c r with
      | nil => simp
      | cons h t => rw [hs] at ih; simp at ih ⊢; omega
theorem splitL_total (c : UInt8) (l : List UInt8) : ((splitL c l).map List.length).sum + (splitL c l).length = l.length + 1 := by
  induction l with
  | nil => simp [splitL]
  | cons x r ih =>
    rw [splitL]
    split
    · simp; omega
    · cases hs : splitL c r with
      | nil => exact absurd hs (splitL_ne c r)
      | cons h t => rw [hs] at ih; simp at ih ⊢; omega
theorem le_sum_of {n : Nat} : ∀ {l : List Nat}, n ∈ l → n ≤ l.sum
  | x :: l, h => by
    rcases List.mem_cons.1 h with rfl | h
    · simp
    · have := le_sum_of h
      simp
      omega
theorem splitL_mem_len {c : UInt8} {l w : List UInt8} (h : w ∈ splitL c l) : w.length ≤ l.length := by
  have h1 := splitL_total c l
  have h2 : w.length ≤ ((splitL c l).map List.length).sum := le_sum_of (List.mem_map.2 ⟨w, h, rfl⟩)
  have h3 : 1 ≤ (splitL c l).length := by cases hs : splitL c l with
    | nil => exact absurd hs (splitL_ne c l)
    | cons a b => simp
  omega

theorem index_one_none {c : UInt8} {l : List UInt8} (h : c ∉ l) : Lib.index l [c] = -1 := by
  induction l with
  | nil => rfl
  | cons x r ih =>
    have hx : c ≠ x := fun e => h (by simp [e])
    rw [Lib.index]
    simp [List.isPrefixOf, hx, ih (fun hr => h (by simp [hr]))]
theorem index_one_app {c : UInt8} {a r : List UInt8} (h : c ∉ a) : Lib.index (a ++ c :: r) [c] = a.length := by
  induction a with
  | nil => rw [List.nil_append, Lib.index]; simp [List.isPrefixOf]
  | cons x a ih =>
    have hx : c ≠ x := fun e => h (by simp [e])
    have ih' := ih (fun hr => h (by simp [hr]))
    rw [List.cons_append, Lib.index, ih']
    have : ¬ ((a.length : Int) = -1) := by omega
    simp [List.isPrefixOf, hx, this]
/-- strings.Split at one byte -/
theorem split_eq (c : UInt8) : ∀ (n : Nat) (s : ByteArray), s.size ≤ n → Lib.splitB ⟨#[c]⟩ 0 (Lib.countB s ⟨#[c]⟩) s = (splitL c (bl s)).map ofB := by
  intro n
  induction n with
  | zero =>
    intro s hs
    have h0 : bl s = [] := List.length_eq_zero_iff.1 (by rw [bl_len]; omega)
    have hi : Lib.indexB s ⟨#[c]⟩ = -1 := by show Lib.index (bl s) [c] = -1; rw [h0]; rfl
    rw [Lib.splitB_miss _ _ _ _ hi, h0]
    simp [splitL, ← h0, ofB_bl]
  | succ n ih =>
    intro s hs
    rcases splitL_cases c (bl s) with ⟨h1, h2⟩ | ⟨a, r, h1, h2, h3⟩
    · have hi : Lib.indexB s ⟨#[c]⟩ = -1 := index_one_none h1
      rw [Lib.splitB_miss _ _ _ _ hi, h2]
      simp [ofB_bl]
    · have hi : Lib.indexB s ⟨#[c]⟩ = (a.length : Nat) := by show Lib.index (bl s) [c] = _; rw [h2]; exact index_one_app h1
      have hlen : s.size = a.length + 1 + r.length := by rw [← bl_len, h2]; simp; omega
      have hone : (⟨#[c]⟩ : ByteArray).size = 1 := rfl
      have hx : bl (s.extract (a.length + 1) s.size) = r := by
        rw [bl_extract, h2, show a.length + 1 = (a ++ [c]).length from by simp, show a ++ c :: r = (a ++ [c]) ++ r from by simp, List.drop_left]
        apply List.take_of_length_le
        simp; omega
      rw [Lib.countB_hit s _ a.length (by rw [hone]; exact Nat.le_refl 1) hi, Nat.add_comm 1, Lib.splitB_hit _ _ _ _ _ hi, hone, ih _ (by rw [← bl_len, hx]; omega), hx, h3]
      simp only [List.map_cons, Nat.add_zero]
      congr 1
      apply bl_inj
      rw [bl_extract, bl_ofB, h2]
      simp
/-- cut at one byte -/
theorem cut_none {c : UInt8} {l : List UInt8} (h : c ∉ l) : Lib.cut l [c] = (l, [], false) := by
  rw [Lib.cut, if_neg (by rw [index_one_none h]; decide)]
theorem cut_app {c : UInt8} {a r : List UInt8} (h : c ∉ a) : Lib.cut (a ++ c :: r) [c] = (a, r, true) := by
  rw [Lib.cut, index_one_app h, if_pos (by omega)]
  simp

section
variable {α β γ δ : Type}
theorem sel_dec {p : Prop} [Decidable p] {x y : Option α} : sel (decide p) x y = if p then x else y := by
  unfold sel
  by_cases h : p <;> simp [h]
theorem sel_not {b : Bool} {x y : Option α} : sel (!b) x y = sel b y x := by cases b <;> rfl
theorem sel_tt {x y : Option α} : sel true x y = x := rfl
theorem sel_ff {x y : Option α} : sel false x y = y := rfl
theorem grd_t {p : Prop} [Decidable p] {x : Option α} (h : p) : grd p x = x := if_pos h
theorem ixn_at {l : List α} {n : Nat} {y : α} {k : α → Option β} (h : l[n]? = some y) : ixn l n k = k y := by rw [ixn, h]
theorem ix_at {l : List α} {n : Nat} {y : α} {k : α → Option β} (h : l[n]? = some y) : ix l (n : Int) k = k y := by
  rw [ix, Int.toNat_natCast, ixn_at h, grd_t (Int.natCast_nonneg n)]
theorem ob1_some {a : α} {k : α → Option β} : ob1 (some a) k = k a := rfl
theorem ob2_some {a : α} {b : β} {k : α → β → Option γ} : ob2 (some (a, b)) k = k a b := rfl
theorem ob3_some {a : α} {b : β} {c : γ} {k : α → β → γ → Option δ} : ob3 (some (a, b, c)) k = k a b c := rfl
theorem osum_inl {f : α → Option γ} {g : β → Option γ} {a : α} : osum f g (.inl a) = f a := rfl
theorem osum_inr {f : α → Option γ} {g : β → Option γ} {b : β} : osum f g (.inr b) = g b := rfl
theorem w64 {z : Int} (h1 : -9223372036854775808 ≤ z) (h2 : z ≤ 9223372036854775807) : IntKind.i64.wrap z = z := wrap_eq h1 h2
theorem w64s {n : Nat} (h : n < 9223372036854775807) : IntKind.i64.wrap ((n : Int) + 1) = ((n + 1 : Nat) : Int) := by rw [w64 (by omega) (by omega)]; rfl
theorem beq_int (a b : Int) : (a == b) = decide (a = b) := by by_cases h : a = b <;> simp [h]
theorem drop_at {l : List α} {n : Nat} (h : n < l.length) : ∃ y, l[n]? = some y ∧ l.drop n = y :: l.drop (n + 1) := ⟨l[n], List.getElem?_eq_getElem h, List.drop_eq_getElem_cons h⟩
end
end Go.Proofs.YtljekaadbabhkaaDoor.Am
/- Range loops as recursions. -/
namespace Go.Proofs.YtljekaadbabhkaaDoor.Am
section
variable {α β γ : Type}
end
end Go.Proofs.YtljekaadbabhkaaDoor.Am
/- Range loops of the models as recursions. -/
namespace Go.Proofs.YtljekaadbabhkaaDoor.Am
end Go.Proofs.YtljekaadbabhkaaDoor.Am
/- Range loops of the models as recursions. -/
namespace Go.Proofs.YtljekaadbabhkaaDoor.Am
end Go.Proofs.YtljekaadbabhkaaDoor.Am
/- Plain laws: strings.FieldsFunc at blanks and tabs, by bytes. -/
namespace Go.Proofs.YtljekaadbabhkaaDoor.Am
open Go.RowKit

def sp (c : UInt8) : Bool := c == 32 || c == 9
/-- the parts between blanks; 'cur' is the part that is begun -/
def fld (cur : List UInt8) : List UInt8 → List (List UInt8)
  | [] => if cur = [] then [] else [cur]
  | c :: r => if sp c then (if cur = [] then fld [] r else cur :: fld [] r) else fld (cur ++ [c]) r
theorem fld_skip : ∀ (k : Nat) (cur l : List UInt8), k ≤ l.length → (∀ j, j < k → sp (l.getD j 0) = false) → fld cur l = fld (cur ++ l.take k) (l.drop k)
  | 0, cur, l, _, _ => by simp
  | k + 1, cur, [], h, _ => by simp at h
  | k + 1, cur, b :: t, h, hz => by
    have h0 : sp b = false := hz 0 (by omega)
    rw [fld, if_neg (by rw [h0]; simp), fld_skip k (cur ++ [b]) t (by simp at h; omega) (fun j hj => hz (j + 1) (by omega))]
    simp
theorem sp_iff {b : UInt8} (h : sp b = true) : b.toNat = 32 ∨ b.toNat = 9 := by
  simp only [sp, Bool.or_eq_true, beq_iff_eq] at h
  rcases h with rfl | rfl
  · exact .inl rfl
  · exact .inr rfl
theorem sp_of {b : UInt8} (h : b.toNat ≠ 32 ∧ b.toNat ≠ 9) : sp b = false := by
  cases hb : sp b with
  | false => rfl
  | true => rcases sp_iff hb with e | e <;> omega
theorem sp_to {b : UInt8} (h : b.toNat = 32 ∨ b.toNat = 9) : sp b = true := by
  rcases h with h | h
  · have : b = 32 := by apply UInt8.toNat_inj.1; simpa using h
    subst this; rfl
  · have : b = 9 := by apply UInt8.toNat_inj.1; simpa using h
    subst this; rfl
theorem spaceR_iff {x : Nat} : spaceR x = true ↔ x = 32 ∨ x = 9 := by simp [spaceR]
/-- what a rune is that the decoder hands out -/
theorem rune_sp (l : List UInt8) (hne : l ≠ []) : (spaceR (Lib.decodeL l).1 = true → (Lib.decodeL l).2 = 1 ∧ sp (l.getD 0 0) = true) ∧
    (spaceR (Lib.decodeL l).1 = false → ∀ j, j < (Lib.decodeL l).2 → sp (l.getD j 0) = false) := by
  have hl : 0 < l.length := List.length_pos_iff.2 hne
  have hsh := Lib.decodeN_shape l.length (l.getD 0 0).toNat (l.getD 1 0).toNat (l.getD 2 0).toNat (l.getD 3 0).toNat
  rw [← Lib.decodeL_N] at hsh
  have hb : ∀ b : UInt8, b.toNat < 256 := fun b => UInt8.toNat_lt b
  rcases hsh with ⟨h1, h2⟩ | ⟨h1, h2, h3, h4, h5⟩ | ⟨h1, h2, h3, h4, h5, _, h6⟩ | ⟨h1, h2, h3, h4, h5, h6, _, h7⟩ | h
  · rw [h2]
    refine ⟨fun h => ⟨rfl, sp_to (by simpa [spaceR] using h)⟩, fun h j hj => ?_⟩
    obtain rfl : j = 0 := by simpa using hj
    exact sp_of (by simpa [spaceR] using h)
  · rw [h5]
    refine ⟨fun h => by have := spaceR_iff.1 h; omega, fun _ j hj => sp_of ?_⟩
    have : j = 0 ∨ j = 1 := by simp at hj; omega
    rcases this with rfl | rfl <;> omega
  · rw [h6]
    refine ⟨fun h => by have := spaceR_iff.1 h; omega, fun _ j hj => sp_of ?_⟩
    have : j = 0 ∨ j = 1 ∨ j = 2 := by simp at hj; omega
    rcases this with rfl | rfl | rfl <;> omega
  · rw [h7]
    refine ⟨fun h => by have := spaceR_iff.1 h; omega, fun _ j hj => sp_of ?_⟩
    have : j = 0 ∨ j = 1 ∨ j = 2 ∨ j = 3 := by simp at hj; omega
    rcases this with rfl | rfl | rfl | rfl <;> omega
  · rw [h]
    refine ⟨fun h => by simp [spaceR] at h, fun _ j hj => ?_⟩
    obtain rfl : j = 0 := by simpa using hj
    refine sp_of ⟨fun e => ?_, fun e => ?_⟩
    · rw [Lib.decodeL_N, e] at h; simp [Lib.decodeN] at h
    · rw [Lib.decodeL_N, e] at h; simp [Lib.decodeN] at h
theorem spansP_eq (s : ByteArray) : ∀ (f pos : Nat) (st : Option Nat) (acc : List (Nat × Nat)), s.size ≤ pos + f → pos ≤ s.size → (∀ a, st = some a → a < pos) →
    (Lib.closeSpans s (Lib.spansFromP spaceR s f pos st acc)).map (fun p => Lib.pieceU (bl s) p.1 p.2) = acc.map (fun p => Lib.pieceU (bl s) p.1 p.2) ++ fld (Lib.openPiece (bl s) st pos) ((bl s).drop pos)
  | 0, pos, st, acc, h, hp, hst => by
    obtain rfl : pos = s.size := by omega
    rw [List.drop_eq_nil_of_le (by rw [bl_len]; exact Nat.le_refl _)]
    cases st with
    | none => simp [Lib.spansFromP, Lib.closeSpans, Lib.openPiece, fld]
    | some a =>
      have := Lib.pieceU_ne (bl s) a s.size (hst a rfl) (by rw [bl_len]; exact Nat.le_refl _)
      simp [Lib.spansFromP, Lib.closeSpans, Lib.openPiece, this, fld]
  | f + 1, pos, st, acc, h, hp, hst => by
    by_cases hlt : pos < s.size
    · have hne : (bl s).drop pos ≠ [] := by
        intro h0
        have := congrArg List.length h0
        rw [List.length_drop, bl_len] at this
        simp at this
        omega
      have hw := Lib.width_pos s pos
      have hwn : pos + (Utf8.decode s pos).2 ≤ s.size := by
        have := Lib.decodeN_le_n' (s.size - pos) (s.get! pos).toNat (s.get! (pos + 1)).toNat (s.get! (pos + 2)).toNat (s.get! (pos + 3)).toNat (by omega)
        rw [← Lib.decode_at] at this
        omega
      obtain ⟨r1, r2⟩ := rune_sp _ hne
      rw [show Lib.decodeL ((bl s).drop pos) = Utf8.decode s pos from Lib.decodeL_drop s pos] at r1 r2
      simp only [Lib.spansFromP, if_pos hlt]
      cases hsp : spaceR (Utf8.decode s pos).1 with
      | true =>
        obtain ⟨hw1, hs1⟩ := r1 hsp
        have hd : (bl s).drop pos = ((bl s).drop pos).getD 0 0 :: (bl s).drop (pos + 1) := by
          rw [List.drop_eq_getElem_cons (by rw [bl_len]; exact hlt)]
          rfl
        rw [hd, fld, if_pos hs1, hw1]
        rw [hw1] at hwn
        simp only [if_true]
        cases st with
        | none =>
          rw [spansP_eq s f (pos + 1) none acc (by omega) hwn (fun a h => by cases h)]
          simp [Lib.openPiece]
        | some a =>
          have hpn := Lib.pieceU_ne (bl s) a pos (hst a rfl) (by rw [bl_len]; omega)
          rw [spansP_eq s f (pos + 1) none (acc ++ [(a, pos)]) (by omega) hwn (fun a h => by cases h)]
          simp [Lib.openPiece, hpn]
      | false =>
        simp only [Bool.false_eq_true, if_false]
        have hk : (Utf8.decode s pos).2 ≤ ((bl s).drop pos).length := by rw [List.length_drop, bl_len]; omega
        rw [fld_skip _ (Lib.openPiece (bl s) st pos) ((bl s).drop pos) hk (r2 hsp), List.drop_drop]
        cases st with
        | none =>
          simp only
          rw [spansP_eq s f (pos + (Utf8.decode s pos).2) (some pos) acc (by omega) hwn (fun a h => by cases h; omega)]
          simp only [Lib.openPiece, List.nil_append]
          congr 2
          unfold Lib.pieceU
          rw [Nat.add_sub_cancel_left]
        | some a =>
          simp only
          rw [spansP_eq s f (pos + (Utf8.decode s pos).2) (some a) acc (by omega) hwn (fun b h => by cases h; have := hst a rfl; omega)]
          simp only [Lib.openPiece]
          rw [Lib.pieceU_grow _ _ _ _ (Nat.le_of_lt (hst a rfl))]
    · obtain rfl : pos = s.size := by omega
      rw [List.drop_eq_nil_of_le (by rw [bl_len]; exact Nat.le_refl _), Lib.spansFromP_end _ _ _ _ _ _ hlt]
      cases st with
      | none => simp [Lib.closeSpans, Lib.openPiece, fld]
      | some a =>
        have := Lib.pieceU_ne (bl s) a s.size (hst a rfl) (by rw [bl_len]; exact Nat.le_refl _)
        simp [Lib.closeSpans, Lib.openPiece, this, fld]
theorem fields_eq (s : ByteArray) : Lib.goFieldsP spaceR s = (fld [] (bl s)).map ofB := by
  have h := spansP_eq s s.size 0 none [] (by omega) (Nat.zero_le _) (fun a h => by cases h)
  simp only [List.map_nil, List.nil_append, Lib.openPiece, List.drop_zero] at h
  unfold Lib.goFieldsP Lib.spansOfP
  rw [← h, List.map_map]
  apply List.map_congr_left
  intro p _
  apply bl_inj
  rw [bl_extract]
  simp [Lib.pieceU, bl_ofB]
end Go.Proofs.YtljekaadbabhkaaDoor.Am
/- Plain laws of chapter 13: names, trimming. -/
namespace Go.Proofs.YtljekaadbabhkaaDoor.Am
open Go.RowKit

def cz (c : UInt8) : Int := (c.toNat : Int)
def lett (z : Int) : Bool := decide (97 ≤ z) && decide (z ≤ 122)
def rest (z : Int) : Bool := (decide (48 ≤ z) && decide (z ≤ 57)) || z == 45 || z == 95
def okN : Nat → List UInt8 → Bool
  | _, [] => true
  | n, c :: r => (lett (cz c) || (n != 0 && rest (cz c))) && okN (n + 1) r
def resv : List ByteArray := [⟨#[97, 110, 100]⟩, ⟨#[111, 114]⟩, ⟨#[110, 111, 116]⟩, ⟨#[105, 109, 112, 108, 121]⟩, ⟨#[102, 111, 114, 97, 108, 108]⟩, ⟨#[101, 120, 105, 115, 116, 115]⟩, ⟨#[119, 104, 101, 110]⟩, ⟨#[97, 115, 115, 105, 103, 110]⟩, ⟨#[105, 110, 99, 114, 101, 97, 115, 101]⟩, ⟨#[100, 101, 99, 114, 101, 97, 115, 101]⟩, ⟨#[111, 98, 106, 101, 99, 116]⟩]
/-- a name -/
def nameF (s : ByteArray) : Bool := okN 0 (bl s) && (decide (1 ≤ s.size) && (decide (s.size ≤ 32) && !resv.any (fun r => decide (r = s))))
theorem byt_at {s : ByteArray} {n : Nat} {c : UInt8} (h : (bl s)[n]? = some c) : byt s (n : Int) = cz c := by
  obtain ⟨h1, h2⟩ := List.getElem?_eq_some_iff.1 h
  rw [byt_bl s n (by rw [← bl_len]; exact h1), h2]
  rfl
theorem beq_bl (s t : ByteArray) : (s.toList == t.toList) = decide (s = t) := by
  rw [toList_bl, toList_bl]
  by_cases h : s = t
  · subst h; simp
  · have : bl s ≠ bl t := fun e => h (bl_inj e)
    rw [beq_eq_false_iff_ne.2 this, decide_eq_false h]
theorem nameL1_eq (a0 : ByteArray) (hs : a0.size < 9223372036854775807) : ∀ (k n : Nat), n ≤ a0.size → a0.size < k + n → M_formula_Name_L1 a0 k (n : Int) = some (if okN n ((bl a0).drop n) then .inl () else .inr false)
  | 0, n, h1, h2 => by omega
  | k + 1, n, h1, h2 => by
    rw [M_formula_Name_L1]
    by_cases hn : n < a0.size
    · obtain ⟨c, hc, hd⟩ := drop_at (l := bl a0) (n := n) (by rw [bl_len]; exact hn)
      have ih := nameL1_eq a0 hs k (n + 1) hn (by omega)
      rw [hd, okN, byt_at hc, w64s (by omega), ih, sel_dec, if_pos (by omega), grd_t (by omega), grd_t (by omega)]
      have hn0 : (((n : Nat) : Int) == 0) = !(n != 0) := by cases n <;> simp <;> omega
      rw [hn0]
      obtain ⟨z, hz⟩ : ∃ z, z = cz c := ⟨_, rfl⟩
      rw [← hz]
      have hl : ob1 (sel (decide (z ≥ 97)) (some (decide (z ≤ 122))) (some false)) = fun (f : Bool → Option (Unit ⊕ Bool)) => f (lett z) := by
        funext f
        rw [sel_dec, lett]
        by_cases h : 97 ≤ z <;> simp [h, ob1]
      rw [hl]
      simp only
      cases lett z with
      | true => simp [sel]
      | false =>
        cases n != 0 with
        | false => simp [sel]
        | true =>
          have h45 : (z != 45) = !(z == 45) := rfl
          have h95 : (z != 95) = !(z == 95) := rfl
          rw [rest, h45, h95]
          simp only [sel_dec]
          by_cases h1 : z < 48
          · rw [if_pos h1]
            have : ¬ 48 ≤ z := by omega
            cases hh : z == 45 <;> cases hk : z == 95 <;> simp [sel, this]
          · rw [if_neg h1]
            have : 48 ≤ z := by omega
            by_cases h2 : z > 57
            · rw [if_pos h2]
              have : ¬ z ≤ 57 := by omega
              cases hh : z == 45 <;> cases hk : z == 95 <;> simp [sel, this]
            · rw [if_neg h2]
              have h3 : z ≤ 57 := by omega
              simp [sel, this, h3]
    · obtain rfl : n = a0.size := by omega
      rw [sel_dec, if_neg (by omega), List.drop_eq_nil_of_le (by rw [bl_len]; exact Nat.le_refl _), okN]
      rfl
theorem index_eq (l : List ByteArray) (s : ByteArray) (hl : l.length < 9223372036854775807) : ∀ (k n : Nat), n ≤ l.length → l.length < k + n → ∃ z, M_s_Index_string_L1 l s k (n : Int) = some z ∧ decide (z ≥ 0) = (l.drop n).any (fun r => decide (r = s))
  | 0, n, h1, h2 => by omega
  | k + 1, n, h1, h2 => by
    rw [M_s_Index_string_L1, sel_dec, List.length_map]
    by_cases hn : n < l.length
    · obtain ⟨y, hy, hd⟩ := drop_at hn
      rw [if_pos (by omega), ix_at hy, hd, beq_bl, sel_dec]
      by_cases he : s = y
      · rw [if_pos he]
        exact ⟨n, rfl, by simp [he]⟩
      · rw [if_neg he, w64s (by omega)]
        obtain ⟨z, h3, h4⟩ := index_eq l s hl k (n + 1) hn (by omega)
        exact ⟨z, h3, by rw [h4, List.any_cons, decide_eq_false (Ne.symm he), Bool.false_or]⟩
    · obtain rfl : n = l.length := by omega
      exact ⟨-1, by rw [if_neg (by omega)], by simp⟩
theorem name_eq (s : ByteArray) (hs : s.size < 9223372036854775807) : M_formula_Name s = some (nameF s) := by
  have h0 := nameL1_eq s hs (s.size + 1) 0 (Nat.zero_le _) (by omega)
  rw [M_formula_Name, Int.toNat_natCast, show (0 : Int) = ((0 : Nat) : Int) from rfl, h0, List.drop_zero, nameF]
  cases okN 0 (bl s) with
  | false => rfl
  | true =>
    rw [if_pos rfl, ob1_some, osum_inl, M_formula_reserved, ob1_some, M_s_Contains_string, M_s_Index_string, beq_bl]
    have he : (!decide (s = (⟨#[]⟩ : ByteArray))) = decide (1 ≤ s.size) := by
      by_cases h : s = ⟨#[]⟩
      · subst h; rfl
      · have h1 : s.size ≠ 0 := fun e => h (bl_inj (List.eq_nil_of_length_eq_zero (by rw [bl_len]; exact e)))
        rw [decide_eq_false h, decide_eq_true (by omega)]
        rfl
    rw [he]
    obtain ⟨z, h3, h4⟩ := index_eq resv s (by decide) (resv.length + 1) 0 (Nat.zero_le _) (by omega)
    have h5 : M_s_Index_string_L1 resv s (((resv.map cS).length : Int).toNat + 1) 0 = some z := h3
    rw [sel_dec]
    by_cases hd1 : 1 ≤ s.size
    · rw [if_pos hd1, sel_dec]
      by_cases h32 : s.size ≤ 32
      · rw [if_pos (by omega), show ([(⟨#[97, 110, 100]⟩ : ByteArray), (⟨#[111, 114]⟩ : ByteArray), (⟨#[110, 111, 116]⟩ : ByteArray), (⟨#[105, 109, 112, 108, 121]⟩ : ByteArray), (⟨#[102, 111, 114, 97, 108, 108]⟩ : ByteArray), (⟨#[101, 120, 105, 115, 116, 115]⟩ : ByteArray), (⟨#[119, 104, 101, 110]⟩ : ByteArray), (⟨#[97, 115, 115, 105, 103, 110]⟩ : ByteArray), (⟨#[105, 110, 99, 114, 101, 97, 115, 101]⟩ : ByteArray), (⟨#[100, 101, 99, 114, 101, 97, 115, 101]⟩ : ByteArray), (⟨#[111, 98, 106, 101, 99, 116]⟩ : ByteArray)] : List ByteArray) = resv from rfl, h5, ob1_some, ob1_some, h4, List.drop_zero]
        simp [h32, hd1]
      · rw [if_neg (by omega)]
        simp [h32]
    · rw [if_neg hd1]
      simp [hd1]
/-- trimming -/
def blk (c : UInt8) : Bool := c == 32 || c == 9 || c == 13
def rdr : List UInt8 → List UInt8
  | [] => []
  | c :: r => if rdr r = [] ∧ blk c = true then [] else c :: rdr r
theorem rdr_snoc (l : List UInt8) (c : UInt8) : rdr (l ++ [c]) = if blk c then rdr l else l ++ [c] := by
  induction l with
  | nil => cases h : blk c <;> simp [rdr, h]
  | cons x r ih =>
    rw [List.cons_append, rdr, ih]
    cases h : blk c with
    | true => simp [rdr]
    | false => simp
theorem rdr_eq (l : List UInt8) : (l.reverse.dropWhile blk).reverse = rdr l := by
  obtain ⟨m, rfl⟩ : ∃ m, l = m.reverse := ⟨l.reverse, by simp⟩
  rw [List.reverse_reverse]
  induction m with
  | nil => rfl
  | cons c r ih =>
    rw [List.reverse_cons, rdr_snoc, List.dropWhile_cons]
    cases h : blk c with
    | true => simpa using ih
    | false => simp
theorem rdr_dropWhile (l : List UInt8) : rdr (l.dropWhile blk) = (rdr l).dropWhile blk := by
  induction l with
  | nil => rfl
  | cons c r ih =>
    rw [List.dropWhile_cons, rdr]
    cases h : blk c with
    | true =>
      rw [if_pos rfl, ih]
      by_cases hr : rdr r = []
      · simp [hr]
      · simp [hr, h]
    | false => simp [rdr, h]
def trimF (s : ByteArray) : ByteArray := ofB (rdr ((bl s).dropWhile blk))
theorem trim_eq (s : ByteArray) (hs : s.size ≤ 9223372036854775807) : M_strings_Trim s ⟨#[32, 9, 13]⟩ = some (trimF s) := by
  have hf : (fun b => ([32, 9, 13] : List UInt8).contains b) = blk := by
    funext b
    simp only [blk, List.contains_cons, List.contains_nil, Bool.or_false, Bool.or_assoc]
  have hp : ∀ l, Lib.trimS l [32, 9, 13] = rdr (l.dropWhile blk) := fun l => by
    rw [Lib.trimS, Lib.trimLeftS, Lib.trimRightS, hf, rdr_eq, rdr_dropWhile]
  rw [M_strings_Trim, grd_t hs, grd_t (by decide), grd_t (by decide)]
  show some (⟨(Lib.trimS (bl s) [32, 9, 13]).toArray⟩ : ByteArray) = _
  rw [hp]
  rfl
end Go.Proofs.YtljekaadbabhkaaDoor.Am
/- Plain laws of chapter 13: words, times, a step. -/
namespace Go.Proofs.YtljekaadbabhkaaDoor.Am
open Go.RowKit

theorem lowS_size (s : ByteArray) : (lowS s).size = s.size := by
  show ((s.data.toList.map lowB).toArray).size = s.size
  simp
theorem fld_len : ∀ (l cur : List UInt8), ∀ w ∈ fld cur l, w.length ≤ cur.length + l.length
  | [], cur, w, h => by
    rw [fld] at h
    split at h
    · cases h
    · simp at h; subst h; omega
  | c :: r, cur, w, h => by
    rw [fld] at h
    split at h
    · split at h
      · have := fld_len r [] w h; simp at this ⊢; omega
      · rcases List.mem_cons.1 h with rfl | h
        · simp
        · have := fld_len r [] w h; simp at this ⊢; omega
    · have := fld_len r (cur ++ [c]) w h; simp at this ⊢; omega
theorem fld_count : ∀ (l cur : List UInt8), (fld cur l).length ≤ l.length + 1
  | [], cur => by rw [fld]; split <;> simp
  | c :: r, cur => by
    rw [fld]
    split
    · split
      · have := fld_count r []; simp; omega
      · have := fld_count r []; simp; omega
    · have := fld_count r (cur ++ [c]); simp; omega
def bad (c : UInt8) : Bool := (decide (cz c < 32) && cz c != 9) || cz c == 127 || cz c == 40 || cz c == 41
def wordsI (s : ByteArray) : Option (List ByteArray) := if (bl s).any bad then none else some ((fld [] (bl s)).map ofB)
def paren (s : ByteArray) : Bool := decide (2 ≤ s.size) && ((bl s)[0]? == some 40 && (bl s)[s.size - 1]? == some 41)
def inner (s : ByteArray) : ByteArray := s.extract 1 (s.size - 1)
def wordsP (s : ByteArray) : Option (List ByteArray) := if paren s then wordsI (inner s) else none
theorem inner_size (s : ByteArray) : (inner s).size = s.size - 2 ∨ (inner s).size ≤ s.size := by
  right
  rw [inner, ByteArray.size_extract]
  omega
theorem words_len {s : ByteArray} {l : List ByteArray} (h : wordsP s = some l) : ∀ w ∈ l, w.size ≤ s.size := by
  unfold wordsP wordsI at h
  split at h
  · split at h
    · cases h
    · cases h
      intro w hw
      obtain ⟨x, hx, rfl⟩ := List.mem_map.1 hw
      have := fld_len _ _ x hx
      rw [← bl_len, bl_ofB]
      rw [bl_len] at this
      have h2 := inner_size s
      simp at this
      omega
  · cases h
theorem words_count {s : ByteArray} {l : List ByteArray} (h : wordsP s = some l) : l.length ≤ s.size + 1 := by
  unfold wordsP wordsI at h
  split at h
  · split at h
    · cases h
    · cases h
      have := fld_count (bl (inner s)) []
      have h2 := inner_size s
      rw [bl_len] at this
      rw [List.length_map]
      omega
  · cases h
theorem cz_eq (c : UInt8) (n : Nat) (hn : n < 256) : (cz c == (n : Int)) = (c == UInt8.ofNat n) := by
  by_cases e : c = UInt8.ofNat n
  · subst e
    have : cz (UInt8.ofNat n) = (n : Int) := by simp [cz]; omega
    simp [this]
  · have h1 : cz c ≠ (n : Int) := fun e2 => e (by
      apply UInt8.toNat_inj.1
      have h3 : c.toNat = n := by simp only [cz] at e2; exact_mod_cast e2
      rw [h3]; simp; omega)
    rw [beq_eq_false_iff_ne.2 h1, beq_eq_false_iff_ne.2 e]
theorem bys_at {s : ByteArray} {n : Nat} {c : UInt8} (h : (bl s)[n]? = some c) : (bys s)[n]? = some (cz c) := by
  rw [bys_bl, List.getElem?_map, h]
  rfl
theorem bys_len (s : ByteArray) : ((bys s).map c_u8).length = s.size := by rw [List.length_map, bys_bl, List.length_map, bl_len]
theorem bne_not {z w : Int} : (z != w) = !(z == w) := rfl
theorem wordsL_eq (a0 : ByteArray) (hs : a0.size ≤ 100000) (he : a0.extract 1 ((IntKind.i64.wrap ((a0.size : Int) - 1)).toNat) = inner a0) : ∀ (k n : Nat), n ≤ (inner a0).size → (inner a0).size < k + n →
    M_planfile_words_L1 a0 k (n : Int) = some (if ((bl (inner a0)).drop n).any bad then .inr ([], false) else .inl ())
  | 0, n, h1, h2 => by omega
  | k + 1, n, h1, h2 => by
    have hi := inner_size a0
    rw [M_planfile_words_L1, he, sel_dec, bys_len]
    by_cases hn : n < (inner a0).size
    · obtain ⟨c, hc, hd⟩ := drop_at (l := bl (inner a0)) (n := n) (by rw [bl_len]; exact hn)
      rw [if_pos (by omega), ix_at (bys_at hc), w64s (by omega), wordsL_eq a0 hs he k (n + 1) hn (by omega), hd, List.any_cons, bad, sel_dec]
      obtain ⟨z, hz⟩ : ∃ z, z = cz c := ⟨_, rfl⟩
      rw [← hz, bne_not]
      cases q1 : z == 40 <;> cases q2 : z == 41 <;> cases q3 : z == 127 <;> cases q4 : z == 9 <;> by_cases q5 : z < 32 <;> simp [sel, q5]
    · obtain rfl : n = (inner a0).size := by omega
      rw [if_neg (by omega), List.drop_eq_nil_of_le (by rw [bl_len]; exact Nat.le_refl _)]
      rfl
theorem byt_is {s : ByteArray} {n : Nat} (h : n < s.size) (m : Nat) (hm : m < 256) : (byt s (n : Int) == (m : Int)) = ((bl s)[n]? == some (UInt8.ofNat m)) := by
  have hl : n < (bl s).length := by rw [bl_len]; exact h
  rw [byt_at (List.getElem?_eq_getElem hl), cz_eq _ _ hm, List.getElem?_eq_getElem hl]
  rfl
theorem words_eq (s : ByteArray) (hs : s.size ≤ 100000) : M_planfile_words s = some (match wordsP s with | none => ([], false) | some l => (l, decide (0 < l.length))) := by
  rw [M_planfile_words]
  by_cases h2 : s.size < 2
  · have hp : paren s = false := by simp [paren]; omega
    rw [wordsP, hp]
    rw [sel_dec, if_pos (by omega)]
    rfl
  · have hw : IntKind.i64.wrap ((s.size : Int) - 1) = ((s.size - 1 : Nat) : Int) := by rw [w64 (by omega) (by omega)]; omega
    have e0 : (byt s 0 != 40) = !((bl s)[0]? == some 40) := by
      rw [bne_not]
      exact congrArg _ (byt_is (n := 0) (by omega) 40 (by decide))
    have e1 : (byt s ((s.size - 1 : Nat) : Int) != 41) = !((bl s)[s.size - 1]? == some 41) := by
      rw [bne_not]
      exact congrArg _ (byt_is (n := s.size - 1) (by omega) 41 (by decide))
    have he : s.extract 1 ((IntKind.i64.wrap ((s.size : Int) - 1)).toNat) = inner s := by rw [hw]; rfl
    have hL := wordsL_eq s hs he ((inner s).size + 1) 0 (Nat.zero_le _) (by omega)
    have hi := inner_size s
    rw [he, hw, e0, e1, sel_dec, if_neg (by omega), sel_not, sel_not, Int.toNat_natCast, bys_len, Int.toNat_natCast, show (0 : Int) = ((0 : Nat) : Int) from rfl, hL, List.drop_zero]
    have hp2 : decide (2 ≤ s.size) = true := by simp; omega
    rw [wordsP, paren, hp2, Bool.true_and]
    cases (bl s)[0]? == some (40 : UInt8) with
    | false =>
      rw [sel_ff, grd_t (by omega)]
      rfl
    | true =>
      rw [sel_tt, grd_t (by omega), grd_t (by omega), grd_t (by omega)]
      cases (bl s)[s.size - 1]? == some (41 : UInt8) with
      | false => rfl
      | true =>
        rw [sel_tt, ob1_some, osum_inl, grd_t (by omega), grd_t (by omega), grd_t (by omega), grd_t (by omega)]
        rw [if_pos (show (true && true) = true from rfl), wordsI]
        cases (bl (inner s)).any bad with
        | true => rfl
        | false =>
          rw [if_neg (show ¬ (false = true) by decide), if_neg (show ¬ (false = true) by decide), ob1_some, osum_inl, M_FieldsFunc, grd_t (by omega), ob1_some, fields_eq]
          simp
end Go.Proofs.YtljekaadbabhkaaDoor.Am
/- Plain laws of chapter 13: the time of a step, a step, the lines, Parse; PlanfileParses is true. -/
namespace Go.Proofs.YtljekaadbabhkaaDoor.Am
open Go.RowKit

def isDig (c : UInt8) : Bool := decide (48 ≤ c.toNat) && decide (c.toNat ≤ 57)
/-- the value of digits, after a number -/
def numL : Int → List UInt8 → Option Int
  | n, [] => some n
  | n, c :: r => if isDig c then numL (10 * n + ((c.toNat : Int) - 48)) r else none
def timeF (s : ByteArray) : Option Int := if 1 ≤ s.size ∧ s.size ≤ 9 then numL 0 (bl s) else none
theorem pow10_le {i : Nat} (h : i ≤ 9) : (10 : Int) ^ i ≤ 1000000000 := by
  have h1 : (10 : Nat) ^ i ≤ 10 ^ 9 := Nat.pow_le_pow_right (by omega) h
  have h2 : ((10 ^ i : Nat) : Int) ≤ ((10 ^ 9 : Nat) : Int) := by exact_mod_cast h1
  simpa using h2
theorem wrap_dig {n c : Int} (h0 : 0 ≤ n) (h1 : n < 10000000000000) (h2 : 48 ≤ c) (h3 : c ≤ 57) : IntKind.i64.wrap (IntKind.i64.wrap (10 * n) + IntKind.i64.wrap (IntKind.u8.wrap (c - 48))) = 10 * n + (c - 48) := by
  have e : IntKind.u8.wrap (c - 48) = c - 48 := by rw [IntKind.wrap_u8]; omega
  rw [e, w64 (z := 10 * n) (by omega) (by omega), w64 (z := c - 48) (by omega) (by omega), w64 (by omega) (by omega)]
theorem clockL_eq (s : ByteArray) (hs : s.size ≤ 9) : ∀ (k n : Nat) (v : Int), n ≤ s.size → s.size < k + n → 0 ≤ v → v < 10 ^ n →
    M_planfile_clock_L1 s k v (n : Int) = some (match numL v ((bl s).drop n) with | some m => .inl m | none => .inr (0, ⟨#[]⟩, false))
  | 0, n, v, h1, h2, _, _ => by omega
  | k + 1, n, v, h1, h2, h3, h4 => by
    rw [M_planfile_clock_L1, sel_dec, bys_len]
    by_cases hn : n < s.size
    · obtain ⟨c, hc, hd⟩ := drop_at (l := bl s) (n := n) (by rw [bl_len]; exact hn)
      have hp := pow10_le (i := n) (by omega)
      rw [if_pos (by omega), ix_at (bys_at hc), hd, numL, sel_dec, sel_dec]
      have hz : cz c = (c.toNat : Int) := rfl
      by_cases hdig : isDig c = true
      · simp [isDig] at hdig
        rw [if_neg (by omega), if_neg (by omega), if_pos (by simp [isDig]; omega), wrap_dig h3 (by omega) (by omega) (by omega), w64s (by omega)]
        exact clockL_eq s hs k (n + 1) _ hn (by omega) (by omega) (by rw [Int.pow_succ]; omega)
      · rw [if_neg hdig]
        simp [isDig] at hdig
        by_cases hlt : cz c < 48
        · rw [if_pos hlt]
        · rw [if_neg hlt, if_pos (by omega)]
    · obtain rfl : n = s.size := by omega
      rw [if_neg (by omega), List.drop_eq_nil_of_le (by rw [bl_len]; exact Nat.le_refl _)]
      rfl
/-- the first colon -/
def colon (s : ByteArray) : Option (ByteArray × ByteArray) := if (58 : UInt8) ∈ bl s then some (ofB ((bl s).takeWhile (· != 58)), ofB (((bl s).dropWhile (· != 58)).drop 1)) else none
theorem colon_app {s : ByteArray} {a r : List UInt8} (h : bl s = a ++ 58 :: r) (ha : (58 : UInt8) ∉ a) : colon s = some (ofB a, ofB r) := by
  have hp : ∀ x ∈ a, (x != 58) = true := fun x hx => by
    rw [bne_iff_ne]
    rintro rfl
    exact ha hx
  rw [colon, if_pos (by rw [h]; simp), h]
  simp only [Option.some.injEq, Prod.mk.injEq]
  constructor
  · congr 1
    clear h
    induction a with
    | nil => rfl
    | cons x a ih => rw [List.cons_append, List.takeWhile_cons, if_pos (hp x (by simp)), ih (fun e => ha (by simp [e])) (fun y hy => hp y (by simp [hy]))]
  · congr 1
    clear h
    induction a with
    | nil => rfl
    | cons x a ih => rw [List.cons_append, List.dropWhile_cons, if_pos (hp x (by simp)), ih (fun e => ha (by simp [e])) (fun y hy => hp y (by simp [hy]))]
theorem colon_cases (s : ByteArray) : ((58 : UInt8) ∉ bl s ∧ colon s = none) ∨ ∃ a r, bl s = a ++ 58 :: r ∧ (58 : UInt8) ∉ a ∧ colon s = some (ofB a, ofB r) := by
  by_cases h : (58 : UInt8) ∈ bl s
  · obtain ⟨a, r, e, ha⟩ := List.append_of_mem h |> fun ⟨a, r, e⟩ => (List.eq_append_cons_of_mem h)
    exact .inr ⟨a, r, e, ha, colon_app e ha⟩
  · exact .inl ⟨h, by rw [colon, if_neg h]⟩
def clockF (s : ByteArray) : Option (Int × ByteArray) :=
  match colon s with
  | none => none
  | some (a, r) => match timeF (trimF a) with
    | none => none
    | some n => some (n, trimF r)
theorem rdr_len (l : List UInt8) : (rdr l).length ≤ l.length := by
  induction l with
  | nil => simp [rdr]
  | cons c r ih =>
    rw [rdr]
    split
    · simp
    · simp; omega
theorem trim_len (s : ByteArray) : (trimF s).size ≤ s.size := by
  rw [← bl_len, trimF, bl_ofB, ← bl_len]
  have h1 := rdr_len ((bl s).dropWhile blk)
  have h2 := (List.dropWhile_sublist blk (l := bl s)).length_le
  omega
theorem colon_len {s a r : ByteArray} (h : colon s = some (a, r)) : a.size + r.size < s.size := by
  rcases colon_cases s with ⟨_, h2⟩ | ⟨x, y, h1, h2, h3⟩
  · rw [h2] at h; cases h
  · rw [h3] at h
    cases h
    have := congrArg List.length h1
    rw [bl_len] at this
    rw [← bl_len, bl_ofB, ← bl_len (ofB y), bl_ofB]
    simp at this
    omega
theorem clock_len {s r : ByteArray} {n : Int} (h : clockF s = some (n, r)) : r.size ≤ s.size := by
  unfold clockF at h
  split at h
  · cases h
  · rename_i a r' hc
    split at h
    · cases h
    · cases h
      have h1 := colon_len hc
      have h2 := trim_len r'
      omega
theorem clock_eq (s : ByteArray) (hs : s.size ≤ 100000) : M_planfile_clock s = some (match clockF s with | none => (0, ⟨#[]⟩, false) | some (n, r) => (n, r, true)) := by
  rw [M_planfile_clock, M_strings_Cut, grd_t (by omega), cutB]
  show ob3 (some ((⟨(Lib.cut (bl s) [58]).1.toArray⟩ : ByteArray), (⟨(Lib.cut (bl s) [58]).2.1.toArray⟩ : ByteArray), (Lib.cut (bl s) [58]).2.2)) _ = _
  rw [ob3_some]
  rcases colon_cases s with ⟨h1, h2⟩ | ⟨a, r, h1, h2, h3⟩
  · rw [cut_none h1, clockF, h2]
    simp only
    rw [trim_eq _ (by show (ofB (bl s)).size ≤ _; rw [← bl_len, bl_ofB, bl_len]; omega), ob1_some]
    rfl
  · have hl := congrArg List.length h1
    rw [bl_len] at hl
    simp at hl
    rw [h1, cut_app h2, clockF, h3]
    simp only
    have ha : (ofB a).size ≤ s.size := by rw [← bl_len, bl_ofB]; omega
    have hr : (ofB r).size ≤ s.size := by rw [← bl_len, bl_ofB]; omega
    have ht := trim_len (ofB a)
    rw [show (⟨a.toArray⟩ : ByteArray) = ofB a from rfl, show (⟨r.toArray⟩ : ByteArray) = ofB r from rfl, trim_eq _ (by omega), trim_eq _ (by omega), ob1_some, timeF]
    obtain ⟨t, he⟩ : ∃ t, trimF (ofB a) = t := ⟨_, rfl⟩
    rw [he] at ht ⊢
    simp only [sel_dec]
    by_cases h1 : t.size < 1
    · rw [if_pos (show ((t.size : Int) < 1) by omega), if_neg (show ¬ (1 ≤ t.size ∧ t.size ≤ 9) by omega)]
      rfl
    · by_cases h9 : t.size > 9
      · rw [if_neg (show ¬ ((t.size : Int) < 1) by omega), if_pos (show ((t.size : Int) > 9) by omega), if_neg (show ¬ (1 ≤ t.size ∧ t.size ≤ 9) by omega)]
        rfl
      · rw [if_neg (show ¬ ((t.size : Int) < 1) by omega), if_neg (show ¬ ((t.size : Int) > 9) by omega), if_pos (show (1 ≤ t.size ∧ t.size ≤ 9) by omega)]
        show ob1 (some (Sum.inl ())) _ = _
        rw [ob1_some, osum_inl, grd_t (by omega), bys_len, Int.toNat_natCast, show (0 : Int) = ((0 : Nat) : Int) from rfl, clockL_eq t (by omega) (t.size + 1) 0 _ (Nat.zero_le _) (by omega) (by simp) (by simp), List.drop_zero]
        cases numL ((0 : Nat) : Int) (bl t) with
        | none => rfl
        | some m => rfl
theorem ne_empty (s : ByteArray) : (!(s.toList == (⟨#[]⟩ : ByteArray).toList)) = decide (1 ≤ s.size) := by
  rw [beq_bl]
  by_cases h : s = ⟨#[]⟩
  · subst h; rfl
  · have h1 : s.size ≠ 0 := fun e => h (bl_inj (List.eq_nil_of_length_eq_zero (by rw [bl_len]; exact e)))
    rw [decide_eq_false h, decide_eq_true (by omega)]
    rfl
def step0 : GStep := { At := 0, Name := ⟨#[]⟩, Args := [] }
/-- the step of a line, and the error's number -/
def stepF (line : ByteArray) (timed : Bool) : GStep × Int :=
  match (if timed then clockF line else some (0, line)) with
  | none => (step0, 2)
  | some (t, l) => match wordsP l with
    | none => (step0, 2)
    | some [] => (step0, 2)
    | some (w :: ws) => if t > 1048576 then (step0, 1) else if ((w :: ws).map lowS).all nameF then ({ At := t, Name := lowS w, Args := ws.map lowS }, 0) else (step0, 8)
theorem low_set (L : List ByteArray) (n : Nat) (c : ByteArray) (h : L[n]? = some c) : ((L.take n).map lowS ++ L.drop n).set n (lowS c) = (L.take (n + 1)).map lowS ++ L.drop (n + 1) := by
  obtain ⟨hk, rfl⟩ := List.getElem?_eq_some_iff.1 h
  rw [List.set_append_right _ _ (by simp; omega)]
  rw [List.length_map, List.length_take, Nat.min_eq_left (by omega), Nat.sub_self, List.drop_eq_getElem_cons hk, List.set_cons_zero, List.take_succ_eq_append_getElem hk]
  simp only [List.map_append, List.map_cons, List.map_nil, List.append_assoc, List.cons_append, List.nil_append]
theorem low_get (L : List ByteArray) (n : Nat) (h : n < L.length) : ((L.take n).map lowS ++ L.drop n)[n]? = L[n]? := by
  rw [List.getElem?_append_right (by simp; omega)]
  simp only [List.length_map, List.length_take, Nat.min_eq_left (Nat.le_of_lt h), Nat.sub_self, List.getElem?_drop, Nat.add_zero]
theorem low_ln (L : List ByteArray) (n : Nat) : ((L.take n).map lowS ++ L.drop n).length = L.length := by
  simp
  omega
theorem stepL_eq (L : List ByteArray) (hL : L.length ≤ 200000) (hw : ∀ w ∈ L, w.size ≤ 200000) : ∀ (k n : Nat), n ≤ L.length → L.length < k + n →
    M_planfile_step_L1 L k (n : Int) ((L.take n).map lowS ++ L.drop n) = some (if ((L.drop n).map lowS).all nameF then .inl (L.map lowS) else .inr (step0, Er.no 8))
  | 0, n, h1, h2 => by omega
  | k + 1, n, h1, h2 => by
    rw [M_planfile_step_L1, sel_dec]
    by_cases hn : n < L.length
    · obtain ⟨c, hc, hd⟩ := drop_at hn
      have hcs := hw c (List.mem_of_getElem? hc)
      have hg := low_get L n hn
      rw [hc] at hg
      have hset := low_set L n c hc
      have hg2 : ((L.take (n + 1)).map lowS ++ L.drop (n + 1))[n]? = some (lowS c) := by
        rw [← hset, List.getElem?_set_self (by rw [low_ln]; exact hn)]
      rw [if_pos (by omega), Int.toNat_natCast, ixn_at hg, M_lower, grd_t (by omega), ob1_some, ixn_at hg, grd_t (by omega), low_ln, grd_t (by omega), hset, ixn_at hg2, name_eq _ (by rw [lowS_size]; omega), ob1_some, w64s (by omega), stepL_eq L hL hw k (n + 1) hn (by omega), hd, List.map_cons, List.all_cons]
      cases nameF (lowS c) <;> rfl
    · obtain rfl : n = L.length := by omega
      rw [if_neg (by omega), List.drop_eq_nil_of_le (Nat.le_refl _), List.take_of_length_le (Nat.le_refl _)]
      simp
def erOf (z : Int) : Er := if z = 0 then .nil else .no z
end Go.Proofs.YtljekaadbabhkaaDoor.Am
/- Plain laws of chapter 13: a step, the lines, Parse; PlanfileParses is true. -/
namespace Go.Proofs.YtljekaadbabhkaaDoor.Am
open Go.RowKit

theorem step_eq (line : ByteArray) (timed : Bool) (hs : line.size ≤ 70000) : M_planfile_step line timed = some ((stepF line timed).1, erOf (stepF line timed).2) := by
  have main : ∀ (l : ByteArray) (t : Int), l.size ≤ 70000 → ob2 (M_planfile_words l) (fun z12 z13 =>
      sel (!z13)
       (some (({ At := 0, Name := (⟨#[]⟩ : ByteArray), Args := [] : GStep }), (Er.no 2)))
       (sel (decide (t > 1048576))
         (some (({ At := 0, Name := (⟨#[]⟩ : ByteArray), Args := [] : GStep }), (Er.no 1)))
         (ob1 (M_planfile_step_L1 z12 ((((z12.length : Nat) : Int)).toNat + 1) 0 z12 : Option ((List ByteArray) ⊕ (GStep × Er)))
           (osum
           (fun v34 => ixn v34 0 (fun y58 =>
              ob1 (M_strings_Clone y58) (fun z59 =>
               grd (v34.length - 1 ≤ 140737488355328) (grd (1 + (v34.length - 1) ≤ v34.length) (ob1 (M_cloneS ((v34.drop 1).take (v34.length - 1))) (fun z60 =>
                grd (0 < ((v34.length : Nat) : Int)) (grd (1 ≤ v34.length) (some (({ At := t, Name := z59, Args := z60 : GStep }), Er.nil)))))))))
           (fun (r35, r36) => some (r35, r36)))))) = some (match wordsP l with
      | none => (step0, .no 2)
      | some [] => (step0, .no 2)
      | some (w :: ws) => if t > 1048576 then (step0, .no 1) else if ((w :: ws).map lowS).all nameF then ({ At := t, Name := lowS w, Args := ws.map lowS }, .nil) else (step0, .no 8)) := by
    intro l t hl
    rw [words_eq l (by omega)]
    cases hw : wordsP l with
    | none => rfl
    | some L =>
      cases L with
      | nil => rfl
      | cons w ws =>
        have hlen := words_len hw
        have hcnt := words_count hw
        simp only
        rw [ob2_some, decide_eq_true (show 0 < (w :: ws).length by simp), sel_not, sel_tt, sel_dec]
        by_cases ht : t > 1048576
        · rw [if_pos ht, if_pos ht]
          rfl
        · have hL := stepL_eq (w :: ws) (by omega) (fun x hx => by have := hlen x hx; omega) ((w :: ws).length + 1) 0 (Nat.zero_le _) (by omega)
          rw [List.take_zero, List.map_nil, List.nil_append, List.drop_zero] at hL
          rw [if_neg ht, if_neg ht, Int.toNat_natCast, show (0 : Int) = ((0 : Nat) : Int) from rfl, hL, ob1_some]
          cases ((w :: ws).map lowS).all nameF with
          | false => rfl
          | true =>
            have hw1 := hlen w (by simp)
            simp at hcnt
            rw [if_pos rfl, if_pos rfl, osum_inl, List.map_cons]
            show ob1 (M_strings_Clone (lowS w)) _ = _
            rw [M_strings_Clone, M_stringslite_Clone, grd_t (by rw [lowS_size]; omega), ob1_some, ob1_some, grd_t (by simp <;> omega), grd_t (by simp <;> omega)]
            have he : ((lowS w :: ws.map lowS).drop 1).take ((lowS w :: ws.map lowS).length - 1) = ws.map lowS := by simp [List.take_of_length_le]
            rw [he, M_cloneS, grd_t (by simp <;> omega), ob1_some, grd_t (by simp <;> omega), grd_t (by simp)]
  have fin : ∀ (l : ByteArray) (t : Int), some (match wordsP l with
      | none => (step0, Er.no 2)
      | some [] => (step0, .no 2)
      | some (w :: ws) => if t > 1048576 then (step0, .no 1) else if ((w :: ws).map lowS).all nameF then ({ At := t, Name := lowS w, Args := ws.map lowS }, .nil) else (step0, .no 8)) = (let r : GStep × Int := (match wordsP l with
      | none => (step0, 2)
      | some [] => (step0, 2)
      | some (w :: ws) => if t > 1048576 then (step0, 1) else if ((w :: ws).map lowS).all nameF then ({ At := t, Name := lowS w, Args := ws.map lowS }, 0) else (step0, 8)); some (r.1, erOf r.2)) := by
    intro l t
    cases wordsP l with
    | none => rfl
    | some L =>
      cases L with
      | nil => rfl
      | cons w ws =>
        simp only
        split
        · rfl
        · split <;> rfl
  rw [M_planfile_step, stepF]
  cases timed with
  | false =>
    rw [sel_ff, ob1_some, osum_inl]
    refine (main line 0 hs).trans ?_
    rw [fin]
    rfl
  | true =>
    rw [sel_tt, clock_eq line (by omega)]
    cases hc : clockF line with
    | none => rfl
    | some x =>
      obtain ⟨t, l⟩ := x
      have := clock_len hc
      simp only
      rw [ob3_some, sel_not, sel_tt, ob1_some, osum_inl]
      refine (main l t (by omega)).trans ?_
      rw [fin]
      rfl
/-- no step stands in a line: it is empty or a comment -/
def skipF (t : ByteArray) : Bool := decide (t.size = 0) || (bl t)[0]? == some 59
/-- the steps, the number of a line, the error's number -/
def parseL (timed : Bool) : Nat → List GStep → List ByteArray → List GStep × Int × Int
  | _, acc, [] => (acc, 0, 0)
  | n, acc, y :: r => if skipF (trimF y) then parseL timed (n + 1) acc r else if (stepF (trimF y) timed).2 = 0 then parseL timed (n + 1) (acc ++ [(stepF (trimF y) timed).1]) r else ([], ((n + 1 : Nat) : Int), (stepF (trimF y) timed).2)
def parseF (s : ByteArray) (timed : Bool) : List GStep × Int × Int := if s.size > 65536 then ([], 0, 5) else parseL timed 0 [] ((splitL 10 (bl s)).map ofB)
theorem skip_eq (t : ByteArray) (_ht : t.size ≤ 100000) : (sel (t.toList == (⟨#[]⟩ : ByteArray).toList)
          (some (.inr ()))
          (grd (0 < (t.size : Int)) (sel ((byt t 0) == 59)
            (some (.inr ()))
            (some (.inl ())))) : Option (Unit ⊕ Unit)) = some (if skipF t then .inr () else .inl ()) := by
  have he : (t.toList == (⟨#[]⟩ : ByteArray).toList) = decide (t.size = 0) := by
    have := ne_empty t
    by_cases h : t.size = 0
    · rw [decide_eq_true h]
      rw [decide_eq_false (show ¬ 1 ≤ t.size by omega)] at this
      simpa using this
    · rw [decide_eq_false h]
      rw [decide_eq_true (show 1 ≤ t.size by omega)] at this
      simpa using this
  rw [he, skipF, sel_dec]
  by_cases h : t.size = 0
  · rw [if_pos h, decide_eq_true h]
    rfl
  · have hb : (byt t 0 == 59) = ((bl t)[0]? == some 59) := byt_is (n := 0) (by omega) 59 (by decide)
    rw [if_neg h, decide_eq_false h, grd_t (by omega), hb]
    cases (bl t)[0]? == some (59 : UInt8) <;> rfl
theorem parseL_eq (timed : Bool) (Z : List ByteArray) (hZ : Z.length ≤ 100000) (hl : ∀ y ∈ Z, y.size ≤ 70000) : ∀ (k n : Nat) (acc : List GStep), n ≤ Z.length → Z.length < k + n → acc.length ≤ n →
    M_planfile_Parse_L1 timed Z k (n : Int) acc = some ((parseL timed n acc (Z.drop n)).1, (parseL timed n acc (Z.drop n)).2.1, erOf (parseL timed n acc (Z.drop n)).2.2)
  | 0, n, acc, h1, h2, _ => by omega
  | k + 1, n, acc, h1, h2, h3 => by
    rw [M_planfile_Parse_L1, sel_dec, List.length_map]
    by_cases hn : n < Z.length
    · obtain ⟨y, hy, hd⟩ := drop_at hn
      have hys := hl y (List.mem_of_getElem? hy)
      have ht := trim_len y
      rw [if_pos (by omega), ix_at hy, trim_eq y (by omega), ob1_some, skip_eq _ (by omega), ob1_some, hd, parseL, w64s (by omega)]
      by_cases hsk : skipF (trimF y) = true
      · rw [if_pos hsk, osum_inr, if_pos hsk]
        exact parseL_eq timed Z hZ hl k (n + 1) acc hn (by omega) (by omega)
      · rw [if_neg hsk, osum_inl, if_neg hsk, step_eq (trimF y) timed (by omega), ob2_some]
        by_cases hc : (stepF (trimF y) timed).2 = 0
        · rw [if_pos hc, erOf, if_pos hc]
          show grd _ _ = _
          rw [grd_t (by omega)]
          exact parseL_eq timed Z hZ hl k (n + 1) _ hn (by omega) (by simp; omega)
        · rw [if_neg hc, erOf, if_neg hc]
          rfl
    · obtain rfl : n = Z.length := by omega
      rw [if_neg (by omega), grd_t (by omega), List.drop_eq_nil_of_le (Nat.le_refl _)]
      rfl
theorem lines_small (s : ByteArray) : ((splitL 10 (bl s)).map ofB).length ≤ s.size + 1 ∧ ∀ y ∈ (splitL 10 (bl s)).map ofB, y.size ≤ s.size := by
  constructor
  · rw [List.length_map]
    have := splitL_len_le 10 (bl s)
    rw [bl_len] at this
    exact this
  · intro y hy
    obtain ⟨x, hx, rfl⟩ := List.mem_map.1 hy
    have := splitL_mem_len hx
    rw [bl_len] at this
    rw [← bl_len, bl_ofB]
    exact this
theorem parse_eq (s : ByteArray) (timed : Bool) (hs : s.size < 4294967281) : M_planfile_Parse s timed = some ((parseF s timed).1, (parseF s timed).2.1, erOf (parseF s timed).2.2) := by
  rw [M_planfile_Parse, sel_dec, parseF]
  by_cases h : s.size > 65536
  · rw [if_pos (by omega), if_pos h]
    rfl
  · obtain ⟨h1, h2⟩ := lines_small s
    rw [if_neg (by omega), if_neg h, M_strings_Split, grd_t hs, grd_t (by decide), split_eq 10 s.size s (Nat.le_refl _), ob1_some, List.length_map, Int.toNat_natCast]
    exact parseL_eq timed _ (by omega) (fun y hy => by have := h2 y hy; omega) _ 0 [] (Nat.zero_le _) (by omega) (Nat.zero_le _)
end Go.Proofs.YtljekaadbabhkaaDoor.Am
/- Plain laws of chapter 13: equal steps, the example of each statement; PlanfileParses is true. -/
namespace Go.Proofs.YtljekaadbabhkaaDoor.Am
open Go.RowKit

theorem texts_eq1 (a b : List ByteArray) (hl : a.length = b.length) (hs : a.length < 9223372036854775807) : ∀ (k n : Nat), n ≤ a.length → a.length < k + n → M_b_Texts_L1 a b k (n : Int) = some (decide (a.drop n = b.drop n))
  | 0, n, h1, h2 => by omega
  | k + 1, n, h1, h2 => by
    rw [M_b_Texts_L1, sel_dec, List.length_map]
    by_cases hn : n < a.length
    · obtain ⟨x, hx, hd⟩ := drop_at hn
      obtain ⟨y, hy, hd2⟩ := drop_at (l := b) (n := n) (by omega)
      rw [if_pos (by omega), ix_at hx, ix_at hy, beq_bl, sel_not, sel_dec, w64s (by omega), texts_eq1 a b hl hs k (n + 1) hn (by omega), hd, hd2]
      by_cases e : x = y
      · rw [if_pos e]
        simp [e]
      · rw [if_neg e]
        simp [e]
    · rw [if_neg (by omega), List.drop_eq_nil_of_le (by omega), List.drop_eq_nil_of_le (by omega)]
      rfl
theorem texts_eq (a b : List ByteArray) (hs : a.length < 9223372036854775807) : M_b_Texts a b = some (decide (a = b)) := by
  rw [M_b_Texts, List.length_map, List.length_map]
  by_cases hl : a.length = b.length
  · have hf : ((a.length : Int) != (b.length : Int)) = false := by rw [bne_eq_false_iff_eq]; omega
    rw [hf, sel_ff, Int.toNat_natCast, show (0 : Int) = ((0 : Nat) : Int) from rfl, texts_eq1 a b hl hs (a.length + 1) 0 (Nat.zero_le _) (by omega), List.drop_zero, List.drop_zero]
  · have hf : ((a.length : Int) != (b.length : Int)) = true := by rw [bne_iff_ne]; omega
    rw [hf, sel_tt, decide_eq_false (fun e => hl (by rw [e]))]
theorem same_eq1 (a b : List GStep) (hl : a.length = b.length) (hs : a.length < 9223372036854775807) (ha : ∀ x ∈ a, x.Args.length < 9223372036854775807) : ∀ (k n : Nat), n ≤ a.length → a.length < k + n → M_l13_Same_L1 a b k (n : Int) = some (decide (a.drop n = b.drop n))
  | 0, n, h1, h2 => by omega
  | k + 1, n, h1, h2 => by
    rw [M_l13_Same_L1, sel_dec, List.length_map]
    by_cases hn : n < a.length
    · obtain ⟨x, hx, hd⟩ := drop_at hn
      obtain ⟨y, hy, hd2⟩ := drop_at (l := b) (n := n) (by omega)
      have hxa := ha x (List.mem_of_getElem? hx)
      rw [if_pos (by omega)]
      simp only [ix_at hx, ix_at hy]
      rw [beq_bl, texts_eq _ _ hxa, ob1_some, w64s (by omega), same_eq1 a b hl hs ha k (n + 1) hn (by omega), hd, hd2, sel_not, sel_not, sel_dec, sel_dec]
      have key : x = y ↔ x.At = y.At ∧ x.Name = y.Name ∧ x.Args = y.Args := by
        obtain ⟨x1, x2, x3⟩ := x
        obtain ⟨y1, y2, y3⟩ := y
        simp
      by_cases e : x = y
      · obtain ⟨e1, e2, e3⟩ := key.1 e
        have hf : (x.At != y.At) = false := by rw [bne_eq_false_iff_eq]; exact e1
        rw [hf, sel_ff, if_pos e2, if_pos e3]
        simp [e]
      · have hr : decide (x :: a.drop (n + 1) = y :: b.drop (n + 1)) = false := decide_eq_false (fun h => e (List.cons.inj h).1)
        rw [hr]
        by_cases e1 : x.At = y.At
        · have hf : (x.At != y.At) = false := by rw [bne_eq_false_iff_eq]; exact e1
          rw [hf, sel_ff]
          by_cases e2 : x.Name = y.Name
          · rw [if_pos e2, if_neg (fun e3 => e (key.2 ⟨e1, e2, e3⟩))]
          · rw [if_neg e2]
        · have hf : (x.At != y.At) = true := by rw [bne_iff_ne]; exact e1
          rw [hf, sel_tt]
    · rw [if_neg (by omega), List.drop_eq_nil_of_le (by omega), List.drop_eq_nil_of_le (by omega)]
      rfl
theorem same_eq (a b : List GStep) (hs : a.length < 9223372036854775807) (ha : ∀ x ∈ a, x.Args.length < 9223372036854775807) : M_l13_Same a b = some (decide (a = b)) := by
  rw [M_l13_Same, List.length_map, List.length_map]
  by_cases hl : a.length = b.length
  · have hf : ((a.length : Int) != (b.length : Int)) = false := by rw [bne_eq_false_iff_eq]; omega
    rw [hf, sel_ff, Int.toNat_natCast, show (0 : Int) = ((0 : Nat) : Int) from rfl, same_eq1 a b hl hs ha (a.length + 1) 0 (Nat.zero_le _) (by omega), List.drop_zero, List.drop_zero]
  · have hf : ((a.length : Int) != (b.length : Int)) = true := by rw [bne_iff_ne]; omega
    rw [hf, sel_tt, decide_eq_false (fun e => hl (by rw [e]))]
theorem awake_parse : parseF ⟨#[40, 109, 111, 118, 101, 32, 97, 32, 98, 41]⟩ false = ([{ At := 0, Name := ⟨#[109, 111, 118, 101]⟩, Args := [⟨#[97]⟩, ⟨#[98]⟩] }], 0, 0) := by kernel_rfl
theorem awake_eq : M_l13_awake = some true := by
  rw [M_l13_awake, parse_eq _ _ (by decide), awake_parse]
  simp only
  rw [ob3_some, erOf, if_pos rfl]
  show sel _ _ _ = _
  rw [beq_bl, decide_eq_true rfl, sel_tt, show (0 : Int) = ((0 : Nat) : Int) from rfl, ix_at (y := ({ At := 0, Name := ⟨#[109, 111, 118, 101]⟩, Args := [⟨#[97]⟩, ⟨#[98]⟩] } : GStep)) rfl, texts_eq _ _ (by decide), ob1_some, decide_eq_true rfl]
end Go.Proofs.YtljekaadbabhkaaDoor.Am
/- Plain: swaps, rotations and merges of a row that is a function of its places. -/
namespace Go.Proofs.YtljekaadbabhkaaDoor

section
variable {Z : Type}
def swp (f : Nat → Z) (i j : Nat) : Nat → Z := fun k => if k = i then f j else if k = j then f i else f k
def PermF (N : Nat) (f g : Nat → Z) : Prop := ((List.range N).map g).Perm ((List.range N).map f)
theorem PermF.refl (N : Nat) (f : Nat → Z) : PermF N f f := List.Perm.refl _
theorem PermF.trans {N : Nat} {f g h : Nat → Z} (a : PermF N f g) (b : PermF N g h) : PermF N f h := List.Perm.trans b a
theorem swp_perm {N i j : Nat} (f : Nat → Z) (hi : i < N) (hj : j < N) : PermF N f (swp f i j) := by
  have h1 : ((List.range N).map (fun k => if k = i then j else if k = j then i else k)).Perm (List.range N) := by
    refine (List.perm_ext_iff_of_nodup ?_ List.nodup_range).2 (fun a => ?_)
    · unfold List.Nodup
      rw [List.pairwise_map]
      refine List.Pairwise.imp ?_ (List.nodup_range (n := N))
      intro a b hab
      repeat' split
      all_goals omega
    · simp only [List.mem_map, List.mem_range]
      constructor
      · rintro ⟨k, hk, rfl⟩
        repeat' split
        all_goals omega
      · intro ha
        refine ⟨if a = i then j else if a = j then i else a, ?_, ?_⟩
        · repeat' split
          all_goals omega
        · repeat' split
          all_goals omega
  have h2 := h1.map f
  unfold PermF
  have e : (List.range N).map (swp f i j) = ((List.range N).map (fun k => if k = i then j else if k = j then i else k)).map f := by
    rw [List.map_map]
    refine List.map_congr_left (fun k _ => ?_)
    simp only [Function.comp, swp]
    repeat' split
    all_goals rfl
  rw [e]
  exact h2
def swr (f : Nat → Z) (a b n : Nat) : Nat → Z := fun k => if a ≤ k ∧ k < a + n then f (k - a + b) else if b ≤ k ∧ k < b + n then f (k - b + a) else f k
theorem swr_zero (f : Nat → Z) (a b : Nat) : swr f a b 0 = f := by
  funext k
  unfold swr
  rw [if_neg (by omega), if_neg (by omega)]
theorem swr_succ (f : Nat → Z) (a b n : Nat) (h : a + n < b) : swp (swr f a b n) (a + n) (b + n) = swr f a b (n + 1) := by
  funext k
  unfold swp swr
  repeat' split
  all_goals first | rfl | (exact congrArg f (by omega)) | (exfalso; omega)
def rot (f : Nat → Z) (a m b : Nat) : Nat → Z := fun k => if a ≤ k ∧ k < b then (if k < a + (b - m) then f (k - a + m) else f (k - (b - m))) else f k
theorem rot_gt (f : Nat → Z) (a m b : Nat) (h1 : a < m) (h2 : m < b) (h : b - m < m - a) : rot f a m b = rot (swr f a m (b - m)) (a + (b - m)) m b := by
  funext k
  unfold rot swr
  repeat' split
  all_goals first | rfl | (exact congrArg f (by omega)) | (exfalso; omega)
theorem rot_lt (f : Nat → Z) (a m b : Nat) (h1 : a < m) (h2 : m < b) (h : m - a < b - m) : rot f a m b = rot (swr f a (b - (m - a)) (m - a)) a m (b - (m - a)) := by
  funext k
  unfold rot swr
  repeat' split
  all_goals first | rfl | (exact congrArg f (by omega)) | (exfalso; omega)
theorem rot_eq (f : Nat → Z) (a m b : Nat) (h1 : a ≤ m) (h : m - a = b - m) (h2 : m ≤ b) : rot f a m b = swr f a m (m - a) := by
  funext k
  unfold rot swr
  repeat' split
  all_goals first | rfl | (exact congrArg f (by omega)) | (exfalso; omega)
theorem rot_left (f : Nat → Z) (m b : Nat) : rot f m m b = f := by
  funext k
  unfold rot
  repeat' split
  all_goals first | rfl | (exact congrArg f (by omega)) | (exfalso; omega)
theorem rot_right (f : Nat → Z) (a m : Nat) : rot f a m m = f := by
  funext k
  unfold rot
  repeat' split
  all_goals first | rfl | (exact congrArg f (by omega)) | (exfalso; omega)
theorem rot_up (f : Nat → Z) (a k : Nat) (h : a ≤ k) : swp (rot f a (a + 1) (k + 1)) k (k + 1) = rot f a (a + 1) (k + 2) := by
  funext j
  unfold swp rot
  repeat' split
  all_goals first | rfl | (exact congrArg f (by omega)) | (exfalso; omega)
theorem rot_down (f : Nat → Z) (m k : Nat) (h0 : 0 < k) (h : k ≤ m) : swp (rot f k m (m + 1)) k (k - 1) = rot f (k - 1) m (m + 1) := by
  funext j
  unfold swp rot
  repeat' split
  all_goals first | rfl | (exact congrArg f (by omega)) | (exfalso; omega)

/-- the places from a to b hold what they held among them; the others are as they were -/
def Within (a b : Nat) (f g : Nat → Z) : Prop := (∀ k, ¬ (a ≤ k ∧ k < b) → g k = f k) ∧ ∀ k, a ≤ k → k < b → ∃ k', a ≤ k' ∧ k' < b ∧ g k = f k'
theorem Within.refl (a b : Nat) (f : Nat → Z) : Within a b f f := ⟨fun _ _ => rfl, fun k h1 h2 => ⟨k, h1, h2, rfl⟩⟩
theorem Within.trans {a b : Nat} {f g h : Nat → Z} (x : Within a b f g) (y : Within a b g h) : Within a b f h := by
  refine ⟨fun k hk => (y.1 k hk).trans (x.1 k hk), fun k h1 h2 => ?_⟩
  obtain ⟨k', h3, h4, e⟩ := y.2 k h1 h2
  obtain ⟨k'', h5, h6, e'⟩ := x.2 k' h3 h4
  exact ⟨k'', h5, h6, e.trans e'⟩
theorem Within.mono {a b a' b' : Nat} {f g : Nat → Z} (x : Within a b f g) (ha : a' ≤ a) (hb : b ≤ b') : Within a' b' f g := by
  refine ⟨fun k hk => x.1 k (by omega), fun k h1 h2 => ?_⟩
  by_cases hk : a ≤ k ∧ k < b
  · obtain ⟨k', h3, h4, e⟩ := x.2 k hk.1 hk.2
    exact ⟨k', by omega, by omega, e⟩
  · exact ⟨k, h1, h2, x.1 k hk⟩
theorem swp_within (f : Nat → Z) (a b i j : Nat) (hi : a ≤ i ∧ i < b) (hj : a ≤ j ∧ j < b) : Within a b f (swp f i j) := by
  refine ⟨fun k hk => ?_, fun k h1 h2 => ?_⟩
  · unfold swp
    rw [if_neg (by omega), if_neg (by omega)]
  · unfold swp
    repeat' split
    · exact ⟨j, by omega, by omega, rfl⟩
    · exact ⟨i, by omega, by omega, rfl⟩
    · exact ⟨k, by omega, by omega, rfl⟩
theorem rot_within (f : Nat → Z) (a m b : Nat) (h1 : a ≤ m) (h2 : m ≤ b) : Within a b f (rot f a m b) := by
  refine ⟨fun k hk => ?_, fun k h3 h4 => ?_⟩
  · unfold rot
    rw [if_neg hk]
  · unfold rot
    rw [if_pos ⟨h3, h4⟩]
    split
    · exact ⟨_, by omega, by omega, rfl⟩
    · exact ⟨_, by omega, by omega, rfl⟩

variable (lt : Z → Z → Bool)
def leB (x y : Z) : Prop := lt y x = false
def SortedOn (f : Nat → Z) (a b : Nat) : Prop := ∀ i j, a ≤ i → i < j → j < b → leB lt (f i) (f j)
structure Ord : Prop where
  trans : ∀ x y z, leB lt x y → leB lt y z → leB lt x z
  asym : ∀ x y, lt x y = true → leB lt x y
variable {lt}
theorem Ord.refl (o : Ord lt) (x : Z) : leB lt x x := by
  unfold leB
  cases h : lt x x
  · rfl
  · have := o.asym x x h
    unfold leB at this
    rw [h] at this
    cases this
theorem SortedOn.le (o : Ord lt) {f : Nat → Z} {a b i j : Nat} (h : SortedOn lt f a b) (h1 : a ≤ i) (h2 : i ≤ j) (h3 : j < b) : leB lt (f i) (f j) := by
  rcases Nat.lt_or_ge i j with hl | hl
  · exact h i j h1 hl h3
  · obtain rfl : i = j := by omega
    exact o.refl _
theorem SortedOn.small {f : Nat → Z} {a b : Nat} (h : b ≤ a + 1) : SortedOn lt f a b := fun i j h1 h2 h3 => by omega
theorem SortedOn.sub {f : Nat → Z} {a b a' b' : Nat} (h : SortedOn lt f a b) (h1 : a ≤ a') (h2 : b' ≤ b) : SortedOn lt f a' b' := fun i j i1 i2 i3 => h i j (by omega) i2 (by omega)
theorem SortedOn.off {f g : Nat → Z} {a b c d : Nat} (h : SortedOn lt f a b) (w : Within c d f g) (hd : b ≤ c ∨ d ≤ a) : SortedOn lt g a b := by
  intro i j i1 i2 i3
  rw [w.1 i (by omega), w.1 j (by omega)]
  exact h i j i1 i2 i3
theorem SortedOn.join {f : Nat → Z} {a m b : Nat} (h1 : SortedOn lt f a m) (h2 : SortedOn lt f m b) (h : ∀ i j, a ≤ i → i < m → m ≤ j → j < b → leB lt (f i) (f j)) : SortedOn lt f a b := by
  intro i j i1 i2 i3
  by_cases hi : i < m
  · by_cases hj : j < m
    · exact h1 i j i1 i2 hj
    · exact h i j i1 hi (by omega) i3
  · exact h2 i j (by omega) i2 i3
/-- one element from the left goes in -/
theorem ins_up (o : Ord lt) {f : Nat → Z} {a b i : Nat} (hs : SortedOn lt f (a + 1) b) (hi1 : a + 1 ≤ i) (hi2 : i ≤ b) (hl : a + 1 < i → lt (f (i - 1)) (f a) = true) (hr : i < b → lt (f i) (f a) = false) : SortedOn lt (rot f a (a + 1) i) a b := by
  intro p q p1 p2 p3
  unfold rot
  have key : ∀ k, a + 1 ≤ k → k < i → leB lt (f k) (f a) := fun k k1 k2 => o.trans _ _ _ (hs.le o k1 (show k ≤ i - 1 by omega) (by omega)) (o.asym _ _ (hl (by omega)))
  have key2 : ∀ k, i ≤ k → k < b → leB lt (f a) (f k) := fun k k1 k2 => o.trans _ _ _ (hr (by omega)) (hs.le o (by omega) k1 k2)
  repeat' split
  · exact hs.le o (by omega) (by omega) (by omega)
  · rw [show q - (i - (a + 1)) = a by omega]; exact key _ (by omega) (by omega)
  · exact hs.le o (by omega) (by omega) (by omega)
  · exfalso; omega
  · exfalso; omega
  · rw [show p - (i - (a + 1)) = a by omega]; exact key2 _ (by omega) (by omega)
  · exfalso; omega
  · exfalso; omega
  · exact hs.le o (by omega) (by omega) (by omega)
/-- one element from the right goes in -/
theorem ins_down (o : Ord lt) {f : Nat → Z} {a m i : Nat} (hs : SortedOn lt f a m) (hi1 : a ≤ i) (hi2 : i ≤ m) (hl : a < i → lt (f m) (f (i - 1)) = false) (hr : i < m → lt (f m) (f i) = true) : SortedOn lt (rot f i m (m + 1)) a (m + 1) := by
  intro p q p1 p2 p3
  unfold rot
  have key : ∀ k, a ≤ k → k < i → leB lt (f k) (f m) := fun k k1 k2 => o.trans _ _ _ (hs.le o k1 (show k ≤ i - 1 by omega) (by omega)) (hl (by omega))
  have key2 : ∀ k, i ≤ k → k < m → leB lt (f m) (f k) := fun k k1 k2 => o.trans _ _ _ (o.asym _ _ (hr (by omega))) (hs.le o (by omega) k1 k2)
  repeat' split
  · exfalso; omega
  · rw [show p - i + m = m by omega]; exact key2 _ (by omega) (by omega)
  · exfalso; omega
  · exfalso; omega
  · exact hs.le o (by omega) (by omega) (by omega)
  · exfalso; omega
  · rw [show q - i + m = m by omega]; exact key _ (by omega) (by omega)
  · exact hs.le o (by omega) (by omega) (by omega)
  · exact hs.le o (by omega) (by omega) (by omega)
/-- the cut of a symmetric merge -/
theorem sym_cut (o : Ord lt) {f : Nat → Z} {a m b mid s e : Nat} (h1 : SortedOn lt f a m) (h2 : SortedOn lt f m b) (ham : a < m) (hse : s + e = mid + m) (hs1 : a ≤ s) (hs2 : s ≤ m) (he1 : m ≤ e) (he2 : e ≤ b)
    (c1 : a < s → e < b → lt (f e) (f (s - 1)) = false) (c2 : s < m → m < e → lt (f (e - 1)) (f s) = true) :
    SortedOn lt (rot f s m e) a s ∧ SortedOn lt (rot f s m e) s mid ∧ SortedOn lt (rot f s m e) mid e ∧ SortedOn lt (rot f s m e) e b ∧ ∀ i j, a ≤ i → i < mid → mid ≤ j → j < b → leB lt (rot f s m e i) (rot f s m e j) := by
  have L : ∀ k, k < s → rot f s m e k = f k := fun k hk => by unfold rot; rw [if_neg (by omega)]
  have M1 : ∀ k, s ≤ k → k < mid → rot f s m e k = f (k - s + m) := fun k k1 k2 => by unfold rot; rw [if_pos (by omega), if_pos (by omega)]
  have M2 : ∀ k, mid ≤ k → k < e → rot f s m e k = f (k - (e - m)) := fun k k1 k2 => by unfold rot; rw [if_pos (by omega), if_neg (by omega)]
  have R : ∀ k, e ≤ k → rot f s m e k = f k := fun k hk => by unfold rot; rw [if_neg (by omega)]
  refine ⟨?_, ?_, ?_, ?_, ?_⟩
  · intro i j i1 i2 i3
    rw [L i (by omega), L j (by omega)]
    exact h1.le o (by omega) (by omega) (by omega)
  · intro i j i1 i2 i3
    rw [M1 i (by omega) (by omega), M1 j (by omega) (by omega)]
    exact h2.le o (by omega) (by omega) (by omega)
  · intro i j i1 i2 i3
    rw [M2 i (by omega) (by omega), M2 j (by omega) (by omega)]
    exact h1.le o (by omega) (by omega) (by omega)
  · intro i j i1 i2 i3
    rw [R i (by omega), R j (by omega)]
    exact h2.le o (by omega) (by omega) (by omega)
  · intro i j i1 i2 i3 i4
    by_cases hi : i < s
    · rw [L i hi]
      by_cases hj : j < e
      · rw [M2 j i3 hj]
        exact h1.le o (by omega) (by omega) (by omega)
      · rw [R j (by omega)]
        exact o.trans _ _ _ (h1.le o i1 (show i ≤ s - 1 by omega) (by omega)) (o.trans _ _ _ (c1 (by omega) (by omega)) (h2.le o (by omega) (by omega) i4))
    · rw [M1 i (by omega) i2]
      by_cases hj : j < e
      · rw [M2 j i3 hj]
        exact o.trans _ _ _ (h2.le o (by omega) (show i - s + m ≤ e - 1 by omega) (by omega)) (o.trans _ _ _ (o.asym _ _ (c2 (by omega) (by omega))) (h1.le o (by omega) (by omega) (by omega)))
      · rw [R j (by omega)]
        exact h2.le o (by omega) (by omega) (by omega)
/-- .. and the two halves merged -/
theorem sym_join {f g h : Nat → Z} {a mid b : Nat} (w1 : Within a mid f g) (w2 : Within mid b g h) (s1 : SortedOn lt g a mid) (s2 : SortedOn lt h mid b) (hc : ∀ i j, a ≤ i → i < mid → mid ≤ j → j < b → leB lt (f i) (f j)) : SortedOn lt h a b := by
  refine (s1.off w2 (.inl (Nat.le_refl _))).join s2 (fun i j i1 i2 i3 i4 => ?_)
  obtain ⟨j', j1, j2, ej⟩ := w2.2 j i3 i4
  obtain ⟨i', i5, i6, ei⟩ := w1.2 i i1 i2
  rw [w2.1 i (by omega), ei, ej, w1.1 j' (by omega)]
  exact hc i' j' i5 i6 j1 j2
/-- insertion: all is in order but the element at j, which is below those behind it -/
def Almost (lt : Z → Z → Bool) (f : Nat → Z) (a i j : Nat) : Prop := (∀ p q, a ≤ p → p < q → q < i → p ≠ j → q ≠ j → leB lt (f p) (f q)) ∧ ∀ q, j < q → q < i → leB lt (f j) (f q)
theorem almost_start {f : Nat → Z} {a i : Nat} (h : SortedOn lt f a i) : Almost lt f a (i + 1) i :=
  ⟨fun p q p1 p2 p3 _ h2 => h p q p1 p2 (by omega), fun q h1 h2 => by omega⟩
theorem almost_step {f : Nat → Z} {a i j : Nat} (h : Almost lt f a i j) (hj : a < j) (hi : j < i) (o : Ord lt) (hl : lt (f j) (f (j - 1)) = true) : Almost lt (swp f j (j - 1)) a i (j - 1) := by
  refine ⟨fun p q p1 p2 p3 n1 n2 => ?_, fun q q1 q2 => ?_⟩
  · unfold swp
    rw [if_neg n1, if_neg n2]
    by_cases hp : p = j
    · rw [if_pos hp, if_neg (show ¬ q = j by omega)]
      exact h.1 (j - 1) q (by omega) (by omega) p3 (by omega) (by omega)
    · by_cases hq : q = j
      · rw [if_neg hp, if_pos hq]
        exact h.1 p (j - 1) p1 (by omega) (by omega) hp (by omega)
      · rw [if_neg hp, if_neg hq]
        exact h.1 p q p1 p2 p3 hp hq
  · unfold swp
    rw [if_neg (show ¬ j - 1 = j by omega), if_pos rfl]
    by_cases hq : q = j
    · rw [if_pos hq]
      exact o.asym _ _ hl
    · rw [if_neg hq, if_neg (by omega)]
      exact h.2 q (by omega) q2
theorem almost_done {f : Nat → Z} {a i j : Nat} (h : Almost lt f a i j) (hj : a ≤ j) (o : Ord lt) (hl : a < j → lt (f j) (f (j - 1)) = false) : SortedOn lt f a i := by
  intro p q p1 p2 p3
  by_cases hp : p = j
  · subst hp
    exact h.2 q p2 p3
  · by_cases hq : q = j
    · subst hq
      have h1 : leB lt (f (q - 1)) (f q) := hl (by omega)
      by_cases hpq : p = q - 1
      · rw [hpq]; exact h1
      · exact o.trans _ _ _ (h.1 p (q - 1) p1 (by omega) (by omega) hp (by omega)) h1
    · exact h.1 p q p1 p2 p3 hp hq
end
end Go.Proofs.YtljekaadbabhkaaDoor
/- Plain: the stable sort of slices, over steps, as its model computes it. -/
namespace Go.Proofs.YtljekaadbabhkaaDoor.Am
open Go.RowKit

section
variable {Z : Type}
def lof (N : Nat) (f : Nat → Z) : List Z := (List.range N).map f
theorem lof_len (N : Nat) (f : Nat → Z) : (lof N f).length = N := by simp [lof]
theorem lof_at {N : Nat} (f : Nat → Z) {k : Nat} (h : k < N) : (lof N f)[k]? = some (f k) := by simp [lof, h]
theorem lof_set {N : Nat} (f : Nat → Z) (i : Nat) (x : Z) : (lof N f).set i x = lof N (fun k => if k = i then x else f k) := by
  apply List.ext_getElem?
  intro k
  by_cases hk : k < N
  · rw [lof_at _ hk]
    by_cases hki : k = i
    · subst hki
      rw [List.getElem?_set_self (by rw [lof_len]; exact hk), if_pos rfl]
    · rw [List.getElem?_set_ne (Ne.symm hki), lof_at _ hk, if_neg hki]
  · rw [List.getElem?_eq_none (by rw [List.length_set, lof_len]; omega), List.getElem?_eq_none (by rw [lof_len]; omega)]
theorem lof_swap {N : Nat} (f : Nat → Z) (i j : Nat) (h : i ≠ j) : ((lof N f).set i (f j)).set j (f i) = lof N (swp f i j) := by
  rw [lof_set, lof_set]
  congr 1
  funext k
  unfold swp
  by_cases h1 : k = j
  · rw [if_pos h1, if_neg (by omega), if_pos h1]
  · rw [if_neg h1]
    by_cases h2 : k = i
    · rw [if_pos h2, if_pos h2]
    · rw [if_neg h2, if_neg h2, if_neg h1]
theorem lof_of (L : List Z) (d : Z) : L = lof L.length (fun k => L.getD k d) := by
  apply List.ext_getElem?
  intro k
  by_cases hk : k < L.length
  · rw [lof_at _ hk, List.getD_eq_getElem?_getD, List.getElem?_eq_getElem hk]
    rfl
  · rw [List.getElem?_eq_none (by omega), List.getElem?_eq_none (by rw [lof_len]; omega)]
theorem lof_perm {N : Nat} {f g : Nat → Z} (h : PermF N f g) : (lof N g).Perm (lof N f) := h
end
theorem wr1 {j : Nat} (h0 : 0 < j) (h : j ≤ 4000000000000) : IntKind.i64.wrap ((j : Int) - 1) = ((j - 1 : Nat) : Int) := by rw [w64 (by omega) (by omega)]; omega
theorem wsub {i j : Nat} (h0 : j ≤ i) (h : i ≤ 40000000000000) : IntKind.i64.wrap ((i : Int) - (j : Int)) = ((i - j : Nat) : Int) := by rw [w64 (by omega) (by omega)]; omega
theorem wadd {i j : Nat} (h : i ≤ 40000000000000) (h2 : j ≤ 40000000000000) : IntKind.i64.wrap ((i : Int) + (j : Int)) = ((i + j : Nat) : Int) := by rw [w64 (by omega) (by omega)]; omega
theorem whalf {i j : Nat} (h : i ≤ 40000000000000) (h2 : j ≤ 40000000000000) : IntKind.i64.wrap (Int.fdiv (IntKind.u64.wrap (IntKind.i64.wrap ((i : Int) + (j : Int)))) 2) = (((i + j) / 2 : Nat) : Int) := by
  rw [wadd h h2]
  have e : IntKind.u64.wrap ((i + j : Nat) : Int) = ((i + j : Nat) : Int) := by rw [IntKind.wrap_u64]; omega
  rw [e, Int.fdiv_eq_ediv_of_nonneg _ (by omega), w64 (by omega) (by omega)]
  omega

section
variable {P : GStep → Prop} {c : GStep → GStep → Int} {cmp : GStep → GStep → Option Int} {N : Nat}
def ltc (c : GStep → GStep → Int) (x y : GStep) : Bool := decide (c x y < 0)
/-- the comparison is defined on what the row holds -/
def Ok (P : GStep → Prop) (c : GStep → GStep → Int) (cmp : GStep → GStep → Option Int) : Prop := ∀ x y, P x → P y → cmp x y = some (c x y)
def All (P : GStep → Prop) (N : Nat) (f : Nat → GStep) : Prop := ∀ k, k < N → P (f k)
theorem All.within {f f' : Nat → GStep} (h : All P N f) {a b : Nat} (w : Within a b f f') (hb : b ≤ N) : All P N f' := by
  intro k hk
  by_cases hab : a ≤ k ∧ k < b
  · obtain ⟨k', _, h2, e⟩ := w.2 k hab.1 hab.2
    rw [e]
    exact h k' (by omega)
  · rw [w.1 k hab]
    exact h k hk
theorem insL1 (o : Ord (ltc c)) (hN : N ≤ 4000000000000) (ok : Ok P c cmp) (a i b : Nat) (hib : i < b) (hbN : b ≤ N) (hai : a ≤ i) : ∀ (k j : Nat) (f : Nat → GStep), a ≤ j → j ≤ i → j - a < k → All P N f → Almost (ltc c) f a (i + 1) j →
    ∃ f', M_s_insertionSortCmpFunc_Step_L1 (a : Int) cmp k (j : Int) (lof N f) = some (lof N f') ∧ PermF N f f' ∧ Within a b f f' ∧ SortedOn (ltc c) f' a (i + 1)
  | 0, j, f, h1, h2, h3, _, _ => by omega
  | k + 1, j, f, h1, h2, h3, hP, hal => by
    rw [M_s_insertionSortCmpFunc_Step_L1, sel_dec]
    by_cases hj : a < j
    · rw [if_pos (show (j : Int) > (a : Int) by omega), wr1 (by omega) (by omega), Int.toNat_natCast, Int.toNat_natCast, ixn_at (lof_at f (show j < N by omega)), ixn_at (lof_at f (show j - 1 < N by omega)), ok _ _ (hP j (by omega)) (hP (j - 1) (by omega)), ob1_some, lof_len, grd_t (by omega), grd_t (by omega), grd_t (by omega), grd_t (by omega), sel_dec]
      by_cases hc : c (f j) (f (j - 1)) < 0
      · have hl : ltc c (f j) (f (j - 1)) = true := decide_eq_true hc
        rw [if_pos hc, ob1_some, osum_inl]
        simp only
        rw [ixn_at (lof_at f (show j - 1 < N by omega)), ixn_at (lof_at f (show j < N by omega)), ixn_at (lof_at f (show j < N by omega)), lof_set f j (f (j - 1)), ixn_at (lof_at _ (show j - 1 < N by omega)), grd_t (by omega), grd_t (by omega), grd_t (by omega), grd_t (by omega), ← lof_set f j (f (j - 1)), lof_swap f j (j - 1) (by omega)]
        have hw := swp_within f a b j (j - 1) (by omega) (by omega)
        obtain ⟨f', q1, q2, q3, q4⟩ := insL1 o hN ok a i b hib hbN hai k (j - 1) (swp f j (j - 1)) (by omega) (by omega) (by omega) (hP.within hw hbN) (almost_step hal hj (by omega) o hl)
        exact ⟨f', q1, (swp_perm f (by omega) (by omega)).trans q2, hw.trans q3, q4⟩
      · have hl : ltc c (f j) (f (j - 1)) = false := decide_eq_false hc
        rw [if_neg hc, ob1_some, osum_inr]
        exact ⟨f, rfl, PermF.refl _ _, Within.refl _ _ _, almost_done hal h1 o (fun _ => hl)⟩
    · rw [if_neg (show ¬ (j : Int) > (a : Int) by omega), ob1_some, osum_inr]
      exact ⟨f, rfl, PermF.refl _ _, Within.refl _ _ _, almost_done hal h1 o (fun h => by omega)⟩
theorem insL2 (o : Ord (ltc c)) (hN : N ≤ 4000000000000) (ok : Ok P c cmp) (a b : Nat) (hbN : b ≤ N) (g : Nat) (hg : b < g) : ∀ (k i : Nat) (f : Nat → GStep), a < i → (i ≤ b ∨ i = a + 1) → b - i < k → All P N f → SortedOn (ltc c) f a i →
    ∃ f', M_s_insertionSortCmpFunc_Step_L2 (a : Int) (b : Int) cmp g k (i : Int) (lof N f) = some (lof N f') ∧ PermF N f f' ∧ Within a b f f' ∧ SortedOn (ltc c) f' a b
  | 0, i, f, h1, h2, h3, _, _ => by omega
  | k + 1, i, f, h1, h2, h3, hP, hs => by
    rw [M_s_insertionSortCmpFunc_Step_L2, sel_dec]
    by_cases hi : i < b
    · obtain ⟨f1, q1, q2, q3, q4⟩ := insL1 o hN ok a i b hi hbN (by omega) g i f (by omega) (Nat.le_refl _) (by omega) hP (almost_start hs)
      rw [if_pos (by omega), q1, ob1_some, w64s (by omega)]
      obtain ⟨f', r1, r2, r3, r4⟩ := insL2 o hN ok a b hbN g hg k (i + 1) f1 (by omega) (by omega) (by omega) (hP.within q3 hbN) q4
      exact ⟨f', r1, q2.trans r2, q3.trans r3, r4⟩
    · rw [if_neg (by omega)]
      exact ⟨f, rfl, PermF.refl _ _, Within.refl _ _ _, hs.sub (Nat.le_refl _) (by omega)⟩
theorem ins_eq (o : Ord (ltc c)) (hN : N ≤ 4000000000000) (ok : Ok P c cmp) (a b : Nat) (hab : a ≤ b) (hbN : b ≤ N) (g : Nat) (hg : b < g) (f : Nat → GStep) (hP : All P N f) :
    ∃ f', M_s_insertionSortCmpFunc_Step g (lof N f) (a : Int) (b : Int) cmp = some (lof N f') ∧ PermF N f f' ∧ Within a b f f' ∧ SortedOn (ltc c) f' a b := by
  rw [M_s_insertionSortCmpFunc_Step, w64s (by omega)]
  exact insL2 o hN ok a b hbN g hg g (a + 1) f (by omega) (.inr rfl) (by omega) hP (SortedOn.small (by omega))
theorem swapL (hN : N ≤ 4000000000000) (a b n : Nat) (hab : a + n ≤ b) (hb : b + n ≤ N) (f : Nat → GStep) : ∀ (k i : Nat), i ≤ n → n < k + i → PermF N f (swr f a b i) →
    M_s_swapRangeCmpFunc_Step_L1 (a : Int) (b : Int) (n : Int) k (i : Int) (lof N (swr f a b i)) = some (lof N (swr f a b n)) ∧ PermF N f (swr f a b n)
  | 0, i, h1, h2, _ => by omega
  | k + 1, i, h1, h2, hp => by
    rw [M_s_swapRangeCmpFunc_Step_L1, sel_dec]
    by_cases hi : i < n
    · obtain ⟨h, hh⟩ : ∃ h, swr f a b i = h := ⟨_, rfl⟩
      rw [hh]
      rw [if_pos (by omega), wadd (by omega) (by omega), wadd (by omega) (by omega), Int.toNat_natCast, Int.toNat_natCast, ixn_at (lof_at h (show b + i < N by omega)), ixn_at (lof_at h (show a + i < N by omega)), ixn_at (lof_at h (show a + i < N by omega)), lof_set h (a + i) (h (b + i)), ixn_at (lof_at _ (show b + i < N by omega)), lof_len, grd_t (by omega), grd_t (by omega), grd_t (by omega), grd_t (by omega), ← lof_set h (a + i) (h (b + i)), lof_swap h (a + i) (b + i) (by omega), w64s (by omega), ← hh, swr_succ f a b i (by omega)]
      refine swapL hN a b n hab hb f k (i + 1) (by omega) (by omega) ?_
      rw [← swr_succ f a b i (by omega)]
      exact hp.trans (swp_perm _ (by omega) (by omega))
    · obtain rfl : i = n := by omega
      rw [if_neg (by omega)]
      exact ⟨rfl, hp⟩
theorem swap_eq (hN : N ≤ 4000000000000) (a b n : Nat) (hab : a + n ≤ b) (hb : b + n ≤ N) (f : Nat → GStep) (g : Nat) (hg : n < g) :
    M_s_swapRangeCmpFunc_Step g (lof N f) (a : Int) (b : Int) (n : Int) cmp = some (lof N (swr f a b n)) ∧ PermF N f (swr f a b n) := by
  have := swapL hN a b n hab hb f g 0 (Nat.zero_le _) (by omega) (by rw [swr_zero]; exact PermF.refl _ _)
  rw [swr_zero] at this
  rw [M_s_swapRangeCmpFunc_Step]
  exact this
theorem rotL (hN : N ≤ 4000000000000) (a m b : Nat) (hb : b ≤ N) (g : Nat) (hg : N < g) (f : Nat → GStep) : ∀ (k i j : Nat) (f' : Nat → GStep), 0 < i → 0 < j → a + i ≤ m → m + j ≤ b → i + j < k → PermF N f f' → rot f a m b = rot f' (m - i) m (m + j) →
    ∃ (q : Nat) (f2 : Nat → GStep), M_s_rotateCmpFunc_Step_L1 (m : Int) cmp g k (i : Int) (j : Int) (lof N f') = some ((q : Int), lof N f2) ∧ 0 < q ∧ a + q ≤ m ∧ m + q ≤ b ∧ PermF N f f2 ∧ rot f a m b = swr f2 (m - q) m q
  | 0, i, j, f', h1, h2, h3, h4, h5, _, _ => by omega
  | k + 1, i, j, f', h1, h2, h3, h4, h5, hp, hrot => by
    rw [M_s_rotateCmpFunc_Step_L1, sel_dec]
    rcases Nat.lt_trichotomy i j with hij | hij | hij
    · have hne : ((i : Int) != (j : Int)) = true := by rw [bne_iff_ne]; omega
      have hl := rot_lt f' (m - i) m (m + j) (by omega) (by omega) (by omega)
      rw [show m - (m - i) = i by omega] at hl
      obtain ⟨s1, s2⟩ := swap_eq (cmp := cmp) hN (m - i) (m + j - i) i (by omega) (by omega) f' g (by omega)
      rw [hne, sel_tt, if_neg (by omega), wsub (by omega) (by omega), wadd (by omega) (by omega), wsub (i := m + j) (by omega) (by omega), s1, ob1_some, lof_len, lof_len, grd_t rfl, wsub (by omega) (by omega)]
      exact rotL hN a m b hb g hg f k i (j - i) _ h1 (by omega) h3 (by omega) (by omega) (hp.trans s2) (by rw [hrot, hl, show m + (j - i) = m + j - i by omega])
    · subst hij
      have hne : ((i : Int) != (i : Int)) = false := by simp
      have hl := rot_eq f' (m - i) m (m + i) (by omega) (by omega) (by omega)
      rw [show m - (m - i) = i by omega] at hl
      rw [hne, sel_ff]
      exact ⟨i, f', rfl, h1, h3, h4, hp, by rw [hrot, hl]⟩
    · have hne : ((i : Int) != (j : Int)) = true := by rw [bne_iff_ne]; omega
      have hl := rot_gt f' (m - i) m (m + j) (by omega) (by omega) (by omega)
      rw [show m + j - m = j by omega] at hl
      obtain ⟨s1, s2⟩ := swap_eq (cmp := cmp) hN (m - i) m j (by omega) (by omega) f' g (by omega)
      rw [hne, sel_tt, if_pos (by omega), wsub (by omega) (by omega), s1, ob1_some, lof_len, lof_len, grd_t rfl, wsub (by omega) (by omega)]
      exact rotL hN a m b hb g hg f k (i - j) j _ (by omega) h2 (by omega) h4 (by omega) (hp.trans s2) (by rw [hrot, hl, show m - (i - j) = m - i + j by omega])
theorem rot_eq2 (hN : N ≤ 4000000000000) (a m b : Nat) (ham : a < m) (hmb : m < b) (hb : b ≤ N) (g : Nat) (hg : N < g) (f : Nat → GStep) :
    M_s_rotateCmpFunc_Step g (lof N f) (a : Int) (m : Int) (b : Int) cmp = some (lof N (rot f a m b)) ∧ PermF N f (rot f a m b) := by
  obtain ⟨q, f2, q1, q2, q3, q4, q5, q6⟩ := rotL (cmp := cmp) hN a m b hb g hg f g (m - a) (b - m) f (by omega) (by omega) (by omega) (by omega) (by omega) (PermF.refl _ _) (by rw [show m - (m - a) = a by omega, show m + (b - m) = b by omega])
  obtain ⟨s1, s2⟩ := swap_eq (cmp := cmp) hN (m - q) m q (by omega) (by omega) f2 g (by omega)
  rw [M_s_rotateCmpFunc_Step, wsub (by omega) (by omega), wsub (by omega) (by omega), q1, ob1_some]
  simp only
  rw [wsub (by omega) (by omega), s1, ob1_some, lof_len, lof_len, grd_t rfl, q6]
  exact ⟨rfl, q5.trans s2⟩
end
end Go.Proofs.YtljekaadbabhkaaDoor.Am
/- Plain: the stable sort of slices, over steps: the symmetric merge, the blocks. -/
namespace Go.Proofs.YtljekaadbabhkaaDoor.Am
open Go.RowKit

section
variable {P : GStep → Prop} {c : GStep → GStep → Int} {cmp : GStep → GStep → Option Int} {N : Nat}
theorem symL1 (hN : N ≤ 4000000000000) (ok : Ok P c cmp) (a b : Nat) (hab : a < b) (hb : b ≤ N) (f : Nat → GStep) (hP : All P N f) : ∀ (k i j : Nat), a + 1 ≤ i → i ≤ j → j ≤ b → j - i < k →
    (a + 1 < i → ltc c (f (i - 1)) (f a) = true) → (j < b → ltc c (f j) (f a) = false) →
    ∃ q : Nat, M_s_symMergeCmpFunc_Step_L1 (lof N f) (a : Int) cmp k (i : Int) (j : Int) = some (q : Int) ∧ a + 1 ≤ q ∧ q ≤ b ∧ (a + 1 < q → ltc c (f (q - 1)) (f a) = true) ∧ (q < b → ltc c (f q) (f a) = false)
  | 0, i, j, h1, h2, h3, h4, _, _ => by omega
  | k + 1, i, j, h1, h2, h3, h4, hl, hr => by
    rw [M_s_symMergeCmpFunc_Step_L1, sel_dec]
    by_cases hij : i < j
    · obtain ⟨h, hh⟩ : ∃ h, h = (i + j) / 2 := ⟨_, rfl⟩
      rw [if_pos (by omega), whalf (by omega) (by omega), ← hh, Int.toNat_natCast, Int.toNat_natCast, ixn_at (lof_at f (show h < N by omega)), ixn_at (lof_at f (show a < N by omega)), ok _ _ (hP h (by omega)) (hP a (by omega)), ob1_some, lof_len, grd_t (by omega), grd_t (by omega), grd_t (by omega), grd_t (by omega), sel_dec, w64s (by omega)]
      by_cases hc : c (f h) (f a) < 0
      · rw [if_pos hc]
        exact symL1 hN ok a b hab hb f hP k (h + 1) j (by omega) (by omega) h3 (by omega) (fun _ => by rw [Nat.add_sub_cancel]; exact decide_eq_true hc) hr
      · rw [if_neg hc]
        exact symL1 hN ok a b hab hb f hP k i h h1 (by omega) (by omega) (by omega) hl (fun _ => decide_eq_false hc)
    · obtain rfl : i = j := by omega
      rw [if_neg (by omega)]
      exact ⟨i, rfl, h1, h3, hl, hr⟩
theorem symL3 (hN : N ≤ 4000000000000) (ok : Ok P c cmp) (a m : Nat) (hm : m < N) (f : Nat → GStep) (hP : All P N f) : ∀ (k i j : Nat), a ≤ i → i ≤ j → j ≤ m → j - i < k →
    (a < i → ltc c (f m) (f (i - 1)) = false) → (j < m → ltc c (f m) (f j) = true) →
    ∃ q : Nat, M_s_symMergeCmpFunc_Step_L3 (lof N f) (m : Int) cmp k (i : Int) (j : Int) = some (q : Int) ∧ a ≤ q ∧ q ≤ m ∧ (a < q → ltc c (f m) (f (q - 1)) = false) ∧ (q < m → ltc c (f m) (f q) = true)
  | 0, i, j, h1, h2, h3, h4, _, _ => by omega
  | k + 1, i, j, h1, h2, h3, h4, hl, hr => by
    rw [M_s_symMergeCmpFunc_Step_L3, sel_dec]
    by_cases hij : i < j
    · obtain ⟨h, hh⟩ : ∃ h, h = (i + j) / 2 := ⟨_, rfl⟩
      rw [if_pos (by omega), whalf (by omega) (by omega), ← hh, Int.toNat_natCast, Int.toNat_natCast, ixn_at (lof_at f (show m < N by omega)), ixn_at (lof_at f (show h < N by omega)), ok _ _ (hP m (by omega)) (hP h (by omega)), ob1_some, lof_len, grd_t (by omega), grd_t (by omega), grd_t (by omega), grd_t (by omega), sel_not, sel_dec, w64s (by omega)]
      by_cases hc : c (f m) (f h) < 0
      · rw [if_pos hc]
        exact symL3 hN ok a m hm f hP k i h h1 (by omega) (by omega) (by omega) hl (fun _ => decide_eq_true hc)
      · rw [if_neg hc]
        exact symL3 hN ok a m hm f hP k (h + 1) j (by omega) (by omega) h3 (by omega) (fun _ => by rw [Nat.add_sub_cancel]; exact decide_eq_false hc) hr
    · obtain rfl : i = j := by omega
      rw [if_neg (by omega)]
      exact ⟨i, rfl, h1, h3, hl, hr⟩
theorem symL2 (hN : N ≤ 4000000000000) (a i : Nat) (hai : a + 1 ≤ i) (hi : i ≤ N) (f : Nat → GStep) : ∀ (k n : Nat), a ≤ n → n + 1 ≤ i → i < k + n → PermF N f (rot f a (a + 1) (n + 1)) →
    M_s_symMergeCmpFunc_Step_L2 (i : Int) k (n : Int) (lof N (rot f a (a + 1) (n + 1))) = some (.inr (lof N (rot f a (a + 1) i))) ∧ PermF N f (rot f a (a + 1) i)
  | 0, n, h1, h2, h3, _ => by omega
  | k + 1, n, h1, h2, h3, hp => by
    rw [M_s_symMergeCmpFunc_Step_L2, sel_dec, wr1 (by omega) (by omega)]
    by_cases hn : n + 1 < i
    · obtain ⟨h, hh⟩ : ∃ h, rot f a (a + 1) (n + 1) = h := ⟨_, rfl⟩
      rw [hh]
      rw [if_pos (by omega), w64s (by omega), Int.toNat_natCast, Int.toNat_natCast, ixn_at (lof_at h (show n + 1 < N by omega)), ixn_at (lof_at h (show n < N by omega)), ixn_at (lof_at h (show n < N by omega)), lof_set h n (h (n + 1)), ixn_at (lof_at _ (show n + 1 < N by omega)), lof_len, grd_t (by omega), grd_t (by omega), grd_t (by omega), grd_t (by omega), ← lof_set h n (h (n + 1)), lof_swap h n (n + 1) (by omega), ← hh, rot_up f a n h1]
      refine symL2 hN a i hai hi f k (n + 1) (by omega) (by omega) (by omega) ?_
      rw [show n + 1 + 1 = n + 2 from rfl, ← rot_up f a n h1]
      exact hp.trans (swp_perm _ (by omega) (by omega))
    · obtain rfl : i = n + 1 := by omega
      rw [if_neg (by omega)]
      exact ⟨rfl, hp⟩
theorem symL4 (hN : N ≤ 4000000000000) (m i : Nat) (him : i ≤ m) (hm : m < N) (f : Nat → GStep) : ∀ (k n : Nat), i ≤ n → n ≤ m → n - i < k → PermF N f (rot f n m (m + 1)) →
    M_s_symMergeCmpFunc_Step_L4 (i : Int) k (n : Int) (lof N (rot f n m (m + 1))) = some (.inr (lof N (rot f i m (m + 1)))) ∧ PermF N f (rot f i m (m + 1))
  | 0, n, h1, h2, h3, _ => by omega
  | k + 1, n, h1, h2, h3, hp => by
    rw [M_s_symMergeCmpFunc_Step_L4, sel_dec]
    by_cases hn : i < n
    · obtain ⟨h, hh⟩ : ∃ h, rot f n m (m + 1) = h := ⟨_, rfl⟩
      rw [hh]
      rw [if_pos (by omega), wr1 (by omega) (by omega), Int.toNat_natCast, Int.toNat_natCast, ixn_at (lof_at h (show n - 1 < N by omega)), ixn_at (lof_at h (show n < N by omega)), ixn_at (lof_at h (show n < N by omega)), lof_set h n (h (n - 1)), ixn_at (lof_at _ (show n - 1 < N by omega)), lof_len, grd_t (by omega), grd_t (by omega), grd_t (by omega), grd_t (by omega), ← lof_set h n (h (n - 1)), lof_swap h n (n - 1) (by omega), ← hh, rot_down f m n (by omega) h2]
      refine symL4 hN m i him hm f k (n - 1) (by omega) (by omega) (by omega) ?_
      rw [← rot_down f m n (by omega) h2]
      exact hp.trans (swp_perm _ (by omega) (by omega))
    · obtain rfl : i = n := by omega
      rw [if_neg (by omega)]
      exact ⟨rfl, hp⟩
theorem symL5 (hN : N ≤ 4000000000000) (ok : Ok P c cmp) (a m b lo up : Nat) (hb : b ≤ N) (hp : (a + b) / 2 + m ≥ 1) (hup : up ≤ (a + b) / 2 + m - 1 + 1) (hpl : ∀ h, lo ≤ h → h < up → (a + b) / 2 + m - 1 - h < N ∧ h < N ∧ h ≤ (a + b) / 2 + m - 1) (hmN : m ≤ N) (hupN : up ≤ N) (f : Nat → GStep) (hP : All P N f) : ∀ (k i j : Nat), lo ≤ i → i ≤ j → j ≤ up → j - i < k →
    (lo < i → ltc c (f ((a + b) / 2 + m - 1 - (i - 1))) (f (i - 1)) = false) → (j < up → ltc c (f ((a + b) / 2 + m - 1 - j)) (f j) = true) →
    ∃ q : Nat, M_s_symMergeCmpFunc_Step_L5 (lof N f) (a : Int) (m : Int) (b : Int) cmp k (i : Int) (j : Int) = some (q : Int) ∧ lo ≤ q ∧ q ≤ up ∧ (lo < q → ltc c (f ((a + b) / 2 + m - 1 - (q - 1))) (f (q - 1)) = false) ∧ (q < up → ltc c (f ((a + b) / 2 + m - 1 - q)) (f q) = true)
  | 0, i, j, h1, h2, h3, h4, _, _ => by omega
  | k + 1, i, j, h1, h2, h3, h4, hl, hr => by
    have e0 : a ≤ 4000000000000 ∨ 4000000000000 < a := by omega
    rw [M_s_symMergeCmpFunc_Step_L5, sel_dec]
    by_cases hij : i < j
    · obtain ⟨h, hh⟩ : ∃ h, h = (i + j) / 2 := ⟨_, rfl⟩
      obtain ⟨g1, g2, g3⟩ := hpl h (by omega) (by omega)
      have ha : a ≤ 40000000000000 := by
        rcases e0 with e | e
        · omega
        · omega
      have hpw : IntKind.i64.wrap ((IntKind.i64.wrap ((IntKind.i64.wrap ((((a + b) / 2 : Nat) : Int) + (m : Int))) - 1)) - (h : Int)) = (((a + b) / 2 + m - 1 - h : Nat) : Int) := by
        rw [wadd (by omega) (by omega), w64 (z := (((a + b) / 2 + m : Nat) : Int) - 1) (by omega) (by omega), w64 (by omega) (by omega)]
        omega
      rw [if_pos (by omega), whalf (i := i) (by omega) (by omega), ← hh, whalf (i := a) (by omega) (by omega), hpw, Int.toNat_natCast, Int.toNat_natCast, ixn_at (lof_at f g1), ixn_at (lof_at f g2), ok _ _ (hP _ g1) (hP _ g2), ob1_some, lof_len, grd_t (by omega), grd_t (by omega), grd_t (by omega), grd_t (by omega), sel_not, sel_dec, w64s (by omega)]
      by_cases hc : c (f ((a + b) / 2 + m - 1 - h)) (f h) < 0
      · rw [if_pos hc]
        exact symL5 hN ok a m b lo up hb hp hup hpl hmN hupN f hP k i h h1 (by omega) (by omega) (by omega) hl (fun _ => decide_eq_true hc)
      · rw [if_neg hc]
        exact symL5 hN ok a m b lo up hb hp hup hpl hmN hupN f hP k (h + 1) j (by omega) (by omega) h3 (by omega) (fun _ => by rw [Nat.add_sub_cancel]; exact decide_eq_false hc) hr
    · obtain rfl : i = j := by omega
      rw [if_neg (by omega)]
      exact ⟨i, rfl, h1, h3, hl, hr⟩
theorem sym_eq (o : Ord (ltc c)) (hN : N ≤ 4000000000000) (ok : Ok P c cmp) : ∀ (d g a m b : Nat) (f : Nat → GStep), b - a ≤ d → N + d + 2 ≤ g → a < m → m < b → b ≤ N → All P N f → SortedOn (ltc c) f a m → SortedOn (ltc c) f m b →
    ∃ f', M_s_symMergeCmpFunc_Step g (lof N f) (a : Int) (m : Int) (b : Int) cmp = some (lof N f') ∧ PermF N f f' ∧ Within a b f f' ∧ SortedOn (ltc c) f' a b
  | 0, g, a, m, b, f, h1, h2, h3, h4, h5, _, _, _ => by omega
  | d + 1, 0, a, m, b, f, h1, h2, h3, h4, h5, _, _, _ => by omega
  | d + 1, g + 1, a, m, b, f, h1, h2, h3, h4, h5, hP, s1, s2 => by
    rw [M_s_symMergeCmpFunc_Step, wsub (by omega) (by omega), wsub (by omega) (by omega)]
    by_cases c1 : m - a = 1
    · obtain rfl : m = a + 1 := by omega
      have he : (((a + 1 - a : Nat) : Int) == 1) = true := by rw [beq_iff_eq]; omega
      obtain ⟨q, q1, q2, q3, q4, q5⟩ := symL1 hN ok a b (by omega) h5 f hP g (a + 1) b (Nat.le_refl _) (by omega) (Nat.le_refl _) (by omega) (fun h => by omega) (fun h => by omega)
      have hr := symL2 hN a q q2 (by omega) f g a (Nat.le_refl _) (by omega) (by omega) (by rw [rot_right]; exact PermF.refl _ _)
      rw [rot_right] at hr
      rw [he, sel_tt, q1, ob1_some, hr.1, ob1_some, osum_inr]
      exact ⟨_, rfl, hr.2, (rot_within f a (a + 1) q (by omega) q2).mono (Nat.le_refl _) q3, ins_up o s2 q2 q3 q4 q5⟩
    · have he : (((m - a : Nat) : Int) == 1) = false := by rw [beq_eq_false_iff_ne]; omega
      rw [he, sel_ff, ob1_some, osum_inl]
      by_cases c2 : b - m = 1
      · obtain rfl : b = m + 1 := by omega
        have he2 : (((m + 1 - m : Nat) : Int) == 1) = true := by rw [beq_iff_eq]; omega
        obtain ⟨q, q1, q2, q3, q4, q5⟩ := symL3 hN ok a m (by omega) f hP g a m (Nat.le_refl _) (by omega) (Nat.le_refl _) (by omega) (fun h => by omega) (fun h => by omega)
        have hr := symL4 hN m q q3 (by omega) f g m q3 (Nat.le_refl _) (by omega) (by rw [rot_left]; exact PermF.refl _ _)
        rw [rot_left] at hr
        rw [he2, sel_tt, q1, ob1_some, hr.1, ob1_some, osum_inr]
        exact ⟨_, rfl, hr.2, (rot_within f q m (m + 1) q3 (by omega)).mono q2 (Nat.le_refl _), ins_down o s1 q2 q3 q4 q5⟩
      · have he2 : (((b - m : Nat) : Int) == 1) = false := by rw [beq_eq_false_iff_ne]; omega
        have hmd1 : 2 * ((a + b) / 2) ≤ a + b := by omega
        have hmd2 : a + b ≤ 2 * ((a + b) / 2) + 1 := by omega
        rw [he2, sel_ff, ob1_some, osum_inl, whalf (by omega) (by omega), wadd (by omega) (by omega)]
        -- the search
        have hsearch : ∃ s : Nat, (ob1 (sel (decide ((m : Int) > (((a + b) / 2 : Nat) : Int))) (some (IntKind.i64.wrap ((((a + b) / 2 + m : Nat) : Int) - (b : Int)), (((a + b) / 2 : Nat) : Int))) (some ((a : Int), (m : Int)))) (fun x => ob1 (M_s_symMergeCmpFunc_Step_L5 (lof N f) (a : Int) (m : Int) (b : Int) cmp g x.1 x.2) some)) = some (s : Int) ∧ a ≤ s ∧ s ≤ m ∧ s ≤ (a + b) / 2 ∧ m ≤ (a + b) / 2 + m - s ∧ (a + b) / 2 + m - s ≤ b ∧
            (a < s → (a + b) / 2 + m - s < b → ltc c (f ((a + b) / 2 + m - s)) (f (s - 1)) = false) ∧ (s < m → m < (a + b) / 2 + m - s → ltc c (f ((a + b) / 2 + m - s - 1)) (f s) = true) := by
          rw [sel_dec]
          by_cases hm : m > (a + b) / 2
          · rw [if_pos (by omega), ob1_some]
            simp only
            rw [wsub (by omega) (by omega)]
            obtain ⟨q, q1, q2, q3, q4, q5⟩ := symL5 hN ok a m b ((a + b) / 2 + m - b) ((a + b) / 2) h5 (by omega) (by omega) (fun h _ _ => by omega) (by omega) (by omega) f hP g ((a + b) / 2 + m - b) ((a + b) / 2) (Nat.le_refl _) (by omega) (Nat.le_refl _) (by omega) (fun h => by omega) (fun h => by omega)
            refine ⟨q, by rw [q1, ob1_some], by omega, by omega, by omega, by omega, by omega, fun _ h => ?_, fun _ h => ?_⟩
            · have := q4 (by omega)
              rwa [show (a + b) / 2 + m - 1 - (q - 1) = (a + b) / 2 + m - q by omega] at this
            · have := q5 (by omega)
              rwa [show (a + b) / 2 + m - 1 - q = (a + b) / 2 + m - q - 1 by omega] at this
          · rw [if_neg (by omega), ob1_some]
            simp only
            obtain ⟨q, q1, q2, q3, q4, q5⟩ := symL5 hN ok a m b a m h5 (by omega) (by omega) (fun h _ _ => by omega) (by omega) (by omega) f hP g a m (Nat.le_refl _) (by omega) (Nat.le_refl _) (by omega) (fun h => by omega) (fun h => by omega)
            refine ⟨q, by rw [q1, ob1_some], by omega, by omega, by omega, by omega, by omega, fun h _ => ?_, fun h _ => ?_⟩
            · have := q4 h
              rwa [show (a + b) / 2 + m - 1 - (q - 1) = (a + b) / 2 + m - q by omega] at this
            · have := q5 h
              rwa [show (a + b) / 2 + m - 1 - q = (a + b) / 2 + m - q - 1 by omega] at this
        obtain ⟨s, hs, i1, i2, i3, i4, i5, i6, i7⟩ := hsearch
        have split : ∀ {x : Option (Int × Int)} {K : Int → Option (List GStep)}, ob1 x (fun x => ob1 (M_s_symMergeCmpFunc_Step_L5 (lof N f) (a : Int) (m : Int) (b : Int) cmp g x.1 x.2) some) = some (s : Int) → ob1 x (fun x => ob1 (M_s_symMergeCmpFunc_Step_L5 (lof N f) (a : Int) (m : Int) (b : Int) cmp g x.1 x.2) K) = K (s : Int) := by
          intro x K h
          cases x with
          | none => cases h
          | some x =>
            rw [ob1_some] at h ⊢
            cases hx : M_s_symMergeCmpFunc_Step_L5 (lof N f) (a : Int) (m : Int) (b : Int) cmp g x.1 x.2 with
            | none => rw [hx] at h; cases h
            | some y =>
              rw [hx] at h
              have : y = (s : Int) := by simpa [ob1] using h
              rw [this, ob1_some]
        obtain ⟨e, hE⟩ : ∃ e, e = (a + b) / 2 + m - s := ⟨_, rfl⟩
        obtain ⟨mid, hmid⟩ : ∃ mid, mid = (a + b) / 2 := ⟨_, rfl⟩
        rw [← hmid] at hE i3 i4 i5 i6 i7 hmd1 hmd2
        rw [← hE] at i4 i5 i6 i7
        obtain ⟨k1, k2, k3, k4, k5⟩ := sym_cut o (mid := mid) s1 s2 h3 (by omega) i1 i2 i4 i5 i6 i7
        have hwn := (rot_within f s m e i2 i4).mono i1 i5
        -- the rotation
        have hrot : (ob1 (sel (decide ((s : Int) < (m : Int))) (sel (decide ((m : Int) < (e : Int))) (ob1 (M_s_rotateCmpFunc_Step g (lof N f) (s : Int) (m : Int) (e : Int) cmp) (fun c229 => grd (c229.length = (lof N f).length) (some c229))) (some (lof N f))) (some (lof N f))) some) = some (lof N (rot f s m e)) ∧ PermF N f (rot f s m e) := by
          rw [sel_dec, sel_dec]
          by_cases x1 : s < m
          · by_cases x2 : m < e
            · obtain ⟨r1, r2⟩ := rot_eq2 (cmp := cmp) hN s m e x1 x2 (by omega) g (by omega) f
              rw [if_pos (by omega), if_pos (by omega), r1, ob1_some, lof_len, lof_len, grd_t rfl, ob1_some]
              exact ⟨rfl, r2⟩
            · obtain rfl : m = e := by omega
              rw [if_pos (by omega), if_neg (by omega), ob1_some, rot_right]
              exact ⟨rfl, PermF.refl _ _⟩
          · obtain rfl : s = m := by omega
            rw [if_neg (by omega), ob1_some, rot_left]
            exact ⟨rfl, PermF.refl _ _⟩
        have hPr := hP.within hwn h5
        obtain ⟨hf, hhf⟩ : ∃ hf, hf = rot f s m e := ⟨_, rfl⟩
        rw [← hhf] at k1 k2 k3 k4 k5 hwn hrot hPr
        -- the left half
        have hleft : ∃ f1, (ob1 (sel (decide ((a : Int) < (s : Int))) (sel (decide ((s : Int) < (mid : Int))) (ob1 (M_s_symMergeCmpFunc_Step g (lof N hf) (a : Int) (s : Int) (mid : Int) cmp) (fun c233 => grd (c233.length = (lof N hf).length) (some c233))) (some (lof N hf))) (some (lof N hf))) some) = some (lof N f1) ∧ PermF N hf f1 ∧ Within a mid hf f1 ∧ SortedOn (ltc c) f1 a mid := by
          rw [sel_dec, sel_dec]
          by_cases x1 : a < s
          · by_cases x2 : s < mid
            · obtain ⟨f1, r1, r2, r3, r4⟩ := sym_eq o hN ok d g a s mid hf (by omega) (by omega) x1 x2 (by omega) hPr k1 k2
              rw [if_pos (by omega), if_pos (by omega), r1, ob1_some, lof_len, lof_len, grd_t rfl, ob1_some]
              exact ⟨f1, rfl, r2, r3, r4⟩
            · rw [if_pos (by omega), if_neg (by omega), ob1_some]
              refine ⟨hf, rfl, PermF.refl _ _, Within.refl _ _ _, ?_⟩
              rwa [show s = mid by omega] at k1
          · rw [if_neg (by omega), ob1_some]
            refine ⟨hf, rfl, PermF.refl _ _, Within.refl _ _ _, ?_⟩
            rwa [show s = a by omega] at k2
        obtain ⟨f1, l1, l2, l3, l4⟩ := hleft
        have hP1 := hPr.within l3 (by omega)
        have k3' := k3.off l3 (.inr (Nat.le_refl _))
        have k4' := k4.off l3 (.inr (by omega))
        -- the right half
        have hright : ∃ f2, (sel (decide ((mid : Int) < (e : Int))) (sel (decide ((e : Int) < (b : Int))) (ob1 (M_s_symMergeCmpFunc_Step g (lof N f1) (mid : Int) (e : Int) (b : Int) cmp) (fun c234 => grd (c234.length = (lof N f1).length) (some c234))) (some (lof N f1))) (some (lof N f1))) = some (lof N f2) ∧ PermF N f1 f2 ∧ Within mid b f1 f2 ∧ SortedOn (ltc c) f2 mid b := by
          rw [sel_dec, sel_dec]
          by_cases x1 : mid < e
          · by_cases x2 : e < b
            · obtain ⟨f2, r1, r2, r3, r4⟩ := sym_eq o hN ok d g mid e b f1 (by omega) (by omega) x1 x2 (by omega) hP1 k3' k4'
              rw [if_pos (by omega), if_pos (by omega), r1, ob1_some, lof_len, lof_len, grd_t rfl]
              exact ⟨f2, rfl, r2, r3, r4⟩
            · rw [if_pos (by omega), if_neg (by omega)]
              refine ⟨f1, rfl, PermF.refl _ _, Within.refl _ _ _, ?_⟩
              rwa [show e = b by omega] at k3'
          · rw [if_neg (by omega)]
            refine ⟨f1, rfl, PermF.refl _ _, Within.refl _ _ _, ?_⟩
            rwa [show e = mid by omega] at k4'
        obtain ⟨f2, u1, u2, u3, u4⟩ := hright
        have ob_some : ∀ {x : Option (List GStep)} {y : List GStep} {K : List GStep → Option (List GStep)}, ob1 x some = some y → ob1 x K = K y := by
          intro x y K h
          cases x with
          | none => cases h
          | some x => rw [ob1_some] at h ⊢; cases h; rfl
        refine ⟨f2, (split hs).trans ?_, hrot.2.trans (l2.trans u2), hwn.trans ((l3.mono (Nat.le_refl _) (by omega)).trans (u3.mono (by omega) (Nat.le_refl _))), sym_join l3 u3 l4 u4 k5⟩
        rw [← hmid, wsub (by omega) (by omega), ← hE, ob_some hrot.1, ob_some l1, u1]
end
end Go.Proofs.YtljekaadbabhkaaDoor.Am
/- Plain: the stable sort of slices, over steps: blocks and merges. -/
namespace Go.Proofs.YtljekaadbabhkaaDoor.Am
open Go.RowKit

section
variable {P : GStep → Prop} {c : GStep → GStep → Int} {cmp : GStep → GStep → Option Int} {N : Nat}
/-- blocks of a size are in order, from a place on -/
def BlkS (lt : GStep → GStep → Bool) (f : Nat → GStep) (N bs lo : Nat) : Prop := ∀ u x, x = u * bs → lo ≤ x → x < N → SortedOn lt f x (min (x + bs) N)
theorem mult_gap {u v c : Nat} (h : u * c < v * c) : u * c + c ≤ v * c := by
  have h1 : u < v := Nat.lt_of_mul_lt_mul_right h
  have h2 := Nat.mul_le_mul_right c (show u + 1 ≤ v from h1)
  rwa [Nat.add_mul, Nat.one_mul] at h2
theorem blk_merge {lt : GStep → GStep → Bool} {f f' : Nat → GStep} {N bs v : Nat} (hb0 : 0 < bs) (h : BlkS lt f N bs (v * (2 * bs))) (hw : Within (v * (2 * bs)) (v * (2 * bs) + 2 * bs) f f') : BlkS lt f' N bs ((v + 1) * (2 * bs)) := by
  intro u x hx hlo hxN
  have e : (v + 1) * (2 * bs) = v * (2 * bs) + 2 * bs := by rw [Nat.add_mul, Nat.one_mul]
  exact (h u x hx (by omega) hxN).off hw (.inr (by omega))
/-- finished blocks of twice the size, below a place -/
def Fin2 (lt : GStep → GStep → Bool) (f : Nat → GStep) (c hi : Nat) : Prop := ∀ u x, x = u * c → x + c ≤ hi → SortedOn lt f x (x + c)
theorem fin_step {lt : GStep → GStep → Bool} {f f' : Nat → GStep} {c v : Nat} (h : Fin2 lt f c (v * c)) (hw : Within (v * c) (v * c + c) f f') (hs : SortedOn lt f' (v * c) (v * c + c)) : Fin2 lt f' c ((v + 1) * c) := by
  intro u x hx hhi
  have e : (v + 1) * c = v * c + c := by rw [Nat.add_mul, Nat.one_mul]
  by_cases hlt : x + c ≤ v * c
  · exact (h u x hx hlt).off hw (.inl hlt)
  · by_cases hc : c = 0
    · subst hc
      exact SortedOn.small (by omega)
    · subst hx
      have huv : ¬ u * c < v * c := fun h1 => hlt (mult_gap h1)
      have hvu : ¬ v * c < u * c := fun h1 => by have := mult_gap h1; omega
      have e2 : u * c = v * c := by omega
      rw [e2]
      exact hs
theorem blk_done {lt : GStep → GStep → Bool} {f : Nat → GStep} {N c v : Nat} (h : Fin2 lt f c (v * c)) (hs : v * c < N → SortedOn lt f (v * c) N) (hN : N < v * c + c) : BlkS lt f N c 0 := by
  intro u x hx _ hxN
  by_cases hlt : x + c ≤ v * c
  · exact (h u x hx hlt).sub (Nat.le_refl _) (Nat.min_le_left _ _)
  · subst hx
    have huv : ¬ u * c < v * c := fun h1 => hlt (mult_gap h1)
    have hvu : ¬ v * c < u * c := fun h1 => by have := mult_gap h1; omega
    have e2 : u * c = v * c := by omega
    rw [e2] at hxN ⊢
    exact (hs hxN).sub (Nat.le_refl _) (Nat.min_le_right _ _)
theorem stabL1 (o : Ord (ltc c)) (hN : N ≤ 4000000000000) (ok : Ok P c cmp) (g : Nat) (hg : N < g) (f : Nat → GStep) (hP : All P N f) : ∀ (k t : Nat) (f' : Nat → GStep), 20 * t ≤ N → N < k + 20 * t → PermF N f f' → Within 0 N f f' → (∀ u, u < t → SortedOn (ltc c) f' (20 * u) (20 * u + 20)) →
    ∃ (q : Nat) (f2 : Nat → GStep), M_s_stableCmpFunc_Step_L1 (N : Int) cmp g k ((20 * t : Nat) : Int) ((20 * t + 20 : Nat) : Int) (lof N f') = some (((20 * q : Nat) : Int), lof N f2) ∧ 20 * q ≤ N ∧ N < 20 * q + 20 ∧ PermF N f f2 ∧ Within 0 N f f2 ∧ ∀ u, u < q → SortedOn (ltc c) f2 (20 * u) (20 * u + 20)
  | 0, t, f', h1, h2, _, _, _ => by omega
  | k + 1, t, f', h1, h2, hp, hw, hbl => by
    rw [M_s_stableCmpFunc_Step_L1, sel_dec]
    by_cases hlt : 20 * t + 20 ≤ N
    · obtain ⟨f1, i1, i2, i3, i4⟩ := ins_eq o hN ok (20 * t) (20 * t + 20) (by omega) hlt g (by omega) f' (hP.within hw (Nat.le_refl _))
      have e1 : IntKind.i64.wrap (((20 * t + 20 : Nat) : Int) + 20) = ((20 * (t + 1) + 20 : Nat) : Int) := by rw [w64 (by omega) (by omega)]; omega
      rw [if_pos (by omega), i1, ob1_some, lof_len, lof_len, grd_t rfl, e1, show 20 * t + 20 = 20 * (t + 1) by omega]
      refine stabL1 o hN ok g hg f hP k (t + 1) f1 (by omega) (by omega) (hp.trans i2) (hw.trans (i3.mono (Nat.zero_le _) (by omega))) (fun u hu => ?_)
      by_cases hut : u = t
      · subst hut; exact i4
      · exact (hbl u (by omega)).off i3 (.inl (by omega))
    · rw [if_neg (by omega)]
      exact ⟨t, f', rfl, h1, by omega, hp, hw, hbl⟩
theorem stabL2 (o : Ord (ltc c)) (hN : N ≤ 4000000000000) (ok : Ok P c cmp) (g : Nat) (hg : 2 * N + 4 ≤ g) (f : Nat → GStep) (hP : All P N f) (bs : Nat) (hbs : 0 < bs) (hbN : bs < N) : ∀ (k v A : Nat) (f3 : Nat → GStep), A = v * (2 * bs) → A ≤ N → N < k + A → PermF N f f3 → Within 0 N f f3 → Fin2 (ltc c) f3 (2 * bs) A → BlkS (ltc c) f3 N bs A →
    ∃ (v' A' : Nat) (f4 : Nat → GStep), M_s_stableCmpFunc_Step_L2 (N : Int) cmp g (bs : Int) k (A : Int) ((A + 2 * bs : Nat) : Int) (lof N f3) = some ((A' : Int), lof N f4) ∧ A' = v' * (2 * bs) ∧ A' ≤ N ∧ N < A' + 2 * bs ∧ PermF N f f4 ∧ Within 0 N f f4 ∧ Fin2 (ltc c) f4 (2 * bs) A' ∧ BlkS (ltc c) f4 N bs A'
  | 0, v, A, f3, _, h1, h2, _, _, _, _ => by omega
  | k + 1, v, A, f3, hA, h1, h2, hp, hw, hfi, hbl => by
    rw [M_s_stableCmpFunc_Step_L2, sel_dec]
    have eA1 : A = (2 * v) * bs := by rw [hA, Nat.mul_comm 2 v, Nat.mul_assoc]
    have eA2 : A + bs = (2 * v + 1) * bs := by rw [Nat.add_mul, Nat.one_mul, ← eA1]
    by_cases hin : A + 2 * bs ≤ N
    · have s1 : SortedOn (ltc c) f3 A (A + bs) := by have := hbl (2 * v) A eA1 (Nat.le_refl _) (by omega); rwa [show min (A + bs) N = A + bs by omega] at this
      have s2 : SortedOn (ltc c) f3 (A + bs) (A + 2 * bs) := by have := hbl (2 * v + 1) (A + bs) eA2 (by omega) (by omega); rwa [show min (A + bs + bs) N = A + 2 * bs by omega] at this
      obtain ⟨f4, z1, z2, z3, z4⟩ := sym_eq o hN ok N g A (A + bs) (A + 2 * bs) f3 (by omega) (by omega) (by omega) (by omega) hin (hP.within hw (Nat.le_refl _)) s1 s2
      have e2 : IntKind.i64.wrap (((A + 2 * bs : Nat) : Int) + IntKind.i64.wrap (2 * (bs : Int))) = ((A + 2 * bs + 2 * bs : Nat) : Int) := by rw [w64 (z := 2 * (bs : Int)) (by omega) (by omega), w64 (by omega) (by omega)]; omega
      rw [if_pos (by omega), wadd (by omega) (by omega), z1, ob1_some, lof_len, lof_len, grd_t rfl, e2]
      have e1 : (v + 1) * (2 * bs) = A + 2 * bs := by rw [Nat.add_mul, Nat.one_mul, ← hA]
      have hw' : Within (v * (2 * bs)) (v * (2 * bs) + 2 * bs) f3 f4 := by rw [← hA]; exact z3
      refine stabL2 o hN ok g hg f hP bs hbs hbN k (v + 1) (A + 2 * bs) f4 e1.symm hin (by omega) (hp.trans z2) (hw.trans (z3.mono (Nat.zero_le _) hin)) ?_ ?_
      · rw [← e1]; exact fin_step (by rw [← hA]; exact hfi) hw' (by rw [← hA]; exact z4)
      · rw [← e1]
        exact blk_merge hbs (by rw [← hA]; exact hbl) hw'
    · rw [if_neg (by omega)]
      exact ⟨v, A, f3, rfl, hA, h1, by omega, hp, hw, hfi, hbl⟩
theorem stabL3 (o : Ord (ltc c)) (hN : N ≤ 4000000000000) (ok : Ok P c cmp) (g : Nat) (hg : 2 * N + 4 ≤ g) (f : Nat → GStep) (hP : All P N f) : ∀ (k bs : Nat) (f2 : Nat → GStep), 20 ≤ bs → bs ≤ 8000000000000 → N < k + bs → 0 < k → PermF N f f2 → Within 0 N f f2 → BlkS (ltc c) f2 N bs 0 →
    ∃ f', M_s_stableCmpFunc_Step_L3 (N : Int) cmp g k (bs : Int) (lof N f2) = some (lof N f') ∧ PermF N f f' ∧ Within 0 N f f' ∧ SortedOn (ltc c) f' 0 N
  | 0, bs, f2, _, _, _, h, _, _, _ => by omega
  | k + 1, bs, f2, h0, hb, h1, _, hp, hw, hbl => by
    rw [M_s_stableCmpFunc_Step_L3, sel_dec]
    by_cases hlt : bs < N
    · have e0 : IntKind.i64.wrap (2 * (bs : Int)) = ((0 + 2 * bs : Nat) : Int) := by rw [w64 (by omega) (by omega)]; omega
      have e1 : IntKind.i64.wrap ((bs : Int) * 2) = ((2 * bs : Nat) : Int) := by rw [w64 (by omega) (by omega)]; omega
      obtain ⟨v, A, f4, z1, z2, z3, z4, z5, z6, z7, z8⟩ := stabL2 o hN ok g hg f hP bs (by omega) hlt g 0 0 f2 (by omega) (Nat.zero_le _) (by omega) hp hw (fun u x hx hh => by omega) hbl
      rw [if_pos (by omega), e0, show (0 : Int) = ((0 : Nat) : Int) from rfl, z1, ob1_some]
      simp only
      rw [wadd (by omega) (by omega), e1, sel_dec]
      have eA1 : A = (2 * v) * bs := by rw [z2, Nat.mul_comm 2 v, Nat.mul_assoc]
      have eA2 : A + bs = (2 * v + 1) * bs := by rw [Nat.add_mul, Nat.one_mul, ← eA1]
      by_cases hm : A + bs < N
      · have s1 : SortedOn (ltc c) f4 A (A + bs) := by have := z8 (2 * v) A eA1 (Nat.le_refl _) (by omega); rwa [show min (A + bs) N = A + bs by omega] at this
        have s2 : SortedOn (ltc c) f4 (A + bs) N := by have := z8 (2 * v + 1) (A + bs) eA2 (by omega) (by omega); rwa [show min (A + bs + bs) N = N by omega] at this
        obtain ⟨f5, y1, y2, y3, y4⟩ := sym_eq o hN ok N g A (A + bs) N f4 (by omega) (by omega) (by omega) hm (Nat.le_refl _) (hP.within z6 (Nat.le_refl _)) s1 s2
        rw [if_pos (by omega), y1, ob1_some, lof_len, lof_len, grd_t rfl]
        refine stabL3 o hN ok g hg f hP k (2 * bs) f5 (by omega) (by omega) (by omega) (by omega) (z5.trans y2) (z6.trans (y3.mono (Nat.zero_le _) (Nat.le_refl _))) ?_
        have hfi' : Fin2 (ltc c) f5 (2 * bs) (v * (2 * bs)) := fun u x hx hh => (z7 u x hx (by rw [z2]; exact hh)).off y3 (.inl (by rw [z2]; exact hh))
        exact blk_done hfi' (fun _ => by rw [← z2]; exact y4) (by rw [← z2]; exact z4)
      · have s1 : A < N → SortedOn (ltc c) f4 A N := fun hAl => by have := z8 (2 * v) A eA1 (Nat.le_refl _) hAl; rwa [show min (A + bs) N = N by omega] at this
        rw [if_neg (by omega)]
        refine stabL3 o hN ok g hg f hP k (2 * bs) f4 (by omega) (by omega) (by omega) (by omega) z5 z6 ?_
        exact blk_done (v := v) (by rw [← z2]; exact z7) (fun h => by rw [← z2] at h ⊢; exact s1 h) (by rw [← z2]; exact z4)
    · rw [if_neg (by omega)]
      refine ⟨f2, rfl, hp, hw, ?_⟩
      by_cases hN0 : N = 0
      · exact SortedOn.small (by omega)
      · have := hbl 0 0 (by omega) (by omega) (by omega)
        rwa [show min (0 + bs) N = N by omega] at this
theorem stable_eq (o : Ord (ltc c)) (hN : N ≤ 4000000000000) (ok : Ok P c cmp) (g : Nat) (hg : 2 * N + 4 ≤ g) (f : Nat → GStep) (hP : All P N f) :
    ∃ f', M_s_SortStableFunc_Step g (lof N f) cmp = some (lof N f') ∧ PermF N f f' ∧ SortedOn (ltc c) f' 0 N := by
  obtain ⟨q, f2, q1, q2, q3, q4, q5, q6⟩ := stabL1 o hN ok g (by omega) f hP g 0 f (by omega) (by omega) (PermF.refl _ _) (Within.refl _ _ _) (fun u hu => by omega)
  obtain ⟨f3, i1, i2, i3, i4⟩ := ins_eq o hN ok (20 * q) N q2 (Nat.le_refl _) g (by omega) f2 (hP.within q5 (Nat.le_refl _))
  have hblk : BlkS (ltc c) f3 N 20 0 := by
    refine blk_done (v := q) (fun u x hx hhi => ?_) (fun _ => ?_) (by omega)
    · exact ((q6 u (by omega)).off i3 (.inl (by omega))) |> fun h => by rw [hx, show u * 20 = 20 * u by omega]; exact h
    · rw [show q * 20 = 20 * q by omega]; exact i4
  obtain ⟨f4, z1, z2, z3, z4⟩ := stabL3 o hN ok g hg f hP g 20 f3 (by omega) (by omega) (by omega) (by omega) (q4.trans i2) (q5.trans (i3.mono (Nat.zero_le _) (Nat.le_refl _))) hblk
  refine ⟨f4, ?_, z2, z4⟩
  rw [M_s_SortStableFunc_Step, M_s_stableCmpFunc_Step, lof_len]
  have q1' : M_s_stableCmpFunc_Step_L1 (N : Int) cmp g g 0 20 (lof N f) = some (((20 * q : Nat) : Int), lof N f2) := q1
  have z1' : M_s_stableCmpFunc_Step_L3 (N : Int) cmp g g 20 (lof N f3) = some (lof N f4) := z1
  rw [q1', ob1_some]
  simp only
  rw [i1, ob1_some, lof_len, lof_len, grd_t rfl, z1', ob1_some, lof_len, grd_t rfl]
end
end Go.Proofs.YtljekaadbabhkaaDoor.Am
