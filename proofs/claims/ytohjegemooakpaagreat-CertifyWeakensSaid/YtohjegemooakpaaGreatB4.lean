/- Texts of the proof, part 4 of 6. -/
import Derived.Test.YtohjegemooakpaaGreatB2
import Derived.Test.YtohjegemooakpaaGreatB3
import Derived.Lib.SplitLaws
import Derived.Lib.IndexMore
/- Models printed by my decompiler, and the proofs that the code computes them. -/
namespace Go.Proofs.YtohjegemooakpaaGreat.Am
set_option maxHeartbeats 16000000
set_option maxRecDepth 100000
open Go.RowKit
def M_task_conditions_L1 (y57 : GOp) : Nat → Int → (List (List Fact)) → Option (List (List Fact))
  | 0, _, _ => none
  | k64 + 1, v62, v63 =>
    sel (decide (v62 < ((y57.Effs.map cGEffect).length : Int)))
     (ix y57.Effs v62 (fun y65 =>
       grd ((v63.length + 1) * 24 ≤ 140737488355328) (M_task_conditions_L1 y57 k64 (IntKind.i64.wrap (v62 + 1)) (v63 ++ [y65.When]))))
     (some v63)
def M_task_conditions_L2 (a0 : GTask) : Nat → Int → (List (List Fact)) → Option (List (List Fact))
  | 0, _, _ => none
  | k45 + 1, v43, v44 =>
    sel (decide (v43 < ((a0.Ops.map cGOp).length : Int)))
     (ob1 (ix a0.Ops v43 (fun y57 =>
        grd ((v44.length + 1) * 24 ≤ 140737488355328) (M_task_conditions_L1 y57 ((((y57.Effs.map cGEffect).length : Int)).toNat + 1) 0 (v44 ++ [y57.Pre]))) : Option (List (List Fact)))
       (fun v55 => M_task_conditions_L2 a0 k45 (IntKind.i64.wrap (v43 + 1)) v55))
     (grd (v44.length ≤ 140737488355328) (some v44))
def M_task_conditions (a0 : GTask) : Option (List (List Fact)) :=
  M_task_conditions_L2 a0 ((((a0.Ops.map cGOp).length : Int)).toNat + 1) 0 [a0.Goal]
theorem A_task_conditions (a0 : GTask) {r1 : List (List Fact)} (h : M_task_conditions a0 = some r1) : ACall cx 69 [.agg [.sl 1 (a0.Vars.map cI), .sl 1 (a0.Init.map cI), .sl 2 (a0.Goal.map cF), .sl 4 (a0.Ops.map cGOp)]] (.sl 1 (r1.map cL_cF)) := by
  refine aOf Tryz.func69 rfl (by decide) rfl (Nat.le_of_ble_eq_true rfl) ?_; intro _; unfold M_task_conditions at h; refine aSR ?_; intro _; refine dr ?_; refine aSR ?_; intro _; refine dr ?_; refine aSq ?_; refine aSR ?_; intro _; refine dr ?_; refine aBk ?_; refine awp_loop (α := Nat × Int × (List (List Fact))) (fun x => mkS 38 [(3, .own 10 0 0 x.2.2.length), (12, .sl 4 (a0.Ops.map cGOp)), (13, .c (.int .i64 ((a0.Ops.map cGOp).length : Int))), (14, .c (.int .i64 x.2.1))] [(10, ⟨23, 1, false, x.2.2.map cL_cF⟩)]) (fun x => M_task_conditions_L2 a0 x.1 x.2.1 x.2.2 = some r1) (fun x => x.1) ((((a0.Ops.map cGOp).length : Int)).toNat + 1, 0, [a0.Goal]) h ?_ ?_
  · exact ca_0
  · intro x1 h; intro _; obtain ⟨k45, m2, h⟩ := succ_of (f := fun n => M_task_conditions_L2 a0 n x1.2.1 x1.2.2) rfl h; replace h : M_task_conditions_L2 a0 (k45 + 1) x1.2.1 x1.2.2 = some r1 := h; rw [M_task_conditions_L2] at h; refine aSR ?_; intro _; refine dr ?_; refine aSq ?_; refine aCd ?_; intro _; refine spl h (fun c3 h => ?_) (fun c3 h => ?_)
    · refine aSk ?_; obtain ⟨o4, h, hK5⟩ := ob1_ok h; refine awp_cut (α := List (List Fact)) (fun v55 => mkS 38 [(3, .own 10 0 0 v55.length), (12, .sl 4 (a0.Ops.map cGOp)), (13, .c (.int .i64 ((a0.Ops.map cGOp).length : Int))), (14, .c (.int .i64 x1.2.1))] [(10, ⟨23, 1, false, v55.map cL_cF⟩)]) (fun v => o4 = v) ?_ ?_
      · refine aBk ?_; refine aSR ?_; intro _; obtain ⟨y57, w6, q7, h⟩ := ix_ok h; refine Exists.intro (cGOp y57) (And.intro (map_at' w6) ?_); intro _; refine pr ?_; refine dr ?_; refine aSR ?_; intro _; obtain ⟨q8, h⟩ := grd_ok h; refine pl ?_; refine pl ?_; refine And.intro (by first | with_reducible assumption | (show (x1.2.2.length + 1) * 24 ≤ 140737488355328; with_reducible assumption) | omega | (simp; omega)) ?_; refine pe ?_; refine dr ?_; refine aSR ?_; intro _; refine dr ?_; refine aBk ?_; refine awp_loop (α := Nat × Int × (List (List Fact))) (fun x => mkS 38 [(3, .own 10 0 0 x.2.2.length), (12, .sl 4 (a0.Ops.map cGOp)), (13, .c (.int .i64 ((a0.Ops.map cGOp).length : Int))), (14, .c (.int .i64 x1.2.1)), (24, .sl 3 (y57.Effs.map cGEffect)), (25, .c (.int .i64 ((y57.Effs.map cGEffect).length : Int))), (26, .c (.int .i64 x.2.1))] [(10, ⟨23, 1, false, x.2.2.map cL_cF⟩)]) (fun x => M_task_conditions_L1 y57 x.1 x.2.1 x.2.2 = some o4) (fun x => x.1) ((((y57.Effs.map cGEffect).length : Int)).toNat + 1, 0, (x1.2.2 ++ [y57.Pre])) h ?_ ?_
        · exact ca_0
        · intro x9 h; intro _; obtain ⟨k64, m10, h⟩ := succ_of (f := fun n => M_task_conditions_L1 y57 n x9.2.1 x9.2.2) rfl h; replace h : M_task_conditions_L1 y57 (k64 + 1) x9.2.1 x9.2.2 = some o4 := h; rw [M_task_conditions_L1] at h; refine aSR ?_; intro _; refine dr ?_; refine aSq ?_; refine aCd ?_; intro _; refine spl h (fun c11 h => ?_) (fun c11 h => ?_)
          · refine aSk ?_; refine aSq ?_; refine aBk ?_; refine aSR ?_; intro _; obtain ⟨y65, w12, q13, h⟩ := ix_ok h; refine Exists.intro (cGEffect y65) (And.intro (map_at' w12) ?_); intro _; refine pr ?_; refine dr ?_; refine aRg ?_; intro _; obtain ⟨q14, h⟩ := grd_ok h; refine pl ?_; refine pl ?_; refine And.intro (by first | with_reducible assumption | (show (x9.2.2.length + 1) * 24 ≤ 140737488355328; with_reducible assumption) | omega | (simp; omega)) ?_; refine pe ?_; refine dr ?_; refine aRg ?_; intro _; refine dr ?_; refine ⟨(k64, (IntKind.i64.wrap (x9.2.1 + 1)), (x9.2.2 ++ [y65.When])), h, ltS m10, ?_⟩; exact ca_0
          · refine aEx ?_; refine ⟨x9.2.2, (Option.some.inj h).symm, ?_⟩; exact ca_0
      · rintro v55 ho; have ho := ho.symm; subst ho; intro _; replace h := hK5; refine aRg ?_; intro _; refine dr ?_; refine ⟨(k45, (IntKind.i64.wrap (x1.2.1 + 1)), v55), h, ltS m2, ?_⟩; exact ca_0
    · refine aEx ?_; refine aSR ?_; intro _; refine dr ?_; refine aRt ?_; obtain ⟨q15, h⟩ := grd_ok h; intro _; obtain rfl := inj1 h; exact ca_0
def M_s_IndexFunc_Fact_L1 (a0 : List (List Fact)) (a1 : (List Fact) → Option Bool) : Nat → Int → Option (Int)
  | 0, _ => none
  | k7 + 1, v6 =>
    sel (decide (v6 < ((a0.map cL_cF).length : Int)))
     (ix a0 v6 (fun y8 =>
       ob1 (a1 y8) (fun z9 =>
        sel z9
         (some v6)
         (M_s_IndexFunc_Fact_L1 a0 a1 k7 (IntKind.i64.wrap (v6 + 1))))))
     (some (-1))
def M_s_IndexFunc_Fact (a0 : List (List Fact)) (a1 : (List Fact) → Option Bool) : Option (Int) :=
  M_s_IndexFunc_Fact_L1 a0 a1 ((((a0.map cL_cF).length : Int)).toNat + 1) 0
theorem A_s_IndexFunc_Fact (a0 : List (List Fact)) (a1 : (List Fact) → Option Bool) (Fa1 : AV) (hFa1 : Fr Fa1) (ea1 : ∃ f fs cap, Fa1 = .clo (.func f) fs cap) (ha1 : ∀ (x0 : List Fact) (y0 : Bool), a1 x0 = some y0 → CCl cx Fa1 [.sl 2 (x0.map cF)] (.c (.bool y0))) {r1 : Int} (h : M_s_IndexFunc_Fact a0 a1 = some r1) : ACall cx 104 [.sl 1 (a0.map cL_cF), Fa1] (.c (.int .i64 r1)) := by
  obtain ⟨fa1, sa1, qa1, rfl⟩ := ea1; refine aOf Tryz.func104 rfl (by decide) rfl (Nat.le_of_ble_eq_true rfl) ?_; intro _; unfold M_s_IndexFunc_Fact at h; refine aSR ?_; intro _; refine dr ?_; refine aSq ?_; refine aSR ?_; intro _; refine dr ?_; refine aBk ?_; refine awp_loop (α := Nat × Int) (fun x => mkS 19 [(0, .sl 1 (a0.map cL_cF)), (1, .clo (.func fa1) sa1 qa1), (7, .c (.int .i64 ((a0.map cL_cF).length : Int))), (8, .c (.int .i64 x.2))] []) (fun x => M_s_IndexFunc_Fact_L1 a0 a1 x.1 x.2 = some r1) (fun x => x.1) ((((a0.map cL_cF).length : Int)).toNat + 1, 0) h ?_ ?_
  · exact ca_0
  · intro x1 h; intro _; obtain ⟨k7, m2, h⟩ := succ_of (f := fun n => M_s_IndexFunc_Fact_L1 a0 a1 n x1.2) rfl h; replace h : M_s_IndexFunc_Fact_L1 a0 a1 (k7 + 1) x1.2 = some r1 := h; rw [M_s_IndexFunc_Fact_L1] at h; refine aSR ?_; intro _; refine dr ?_; refine aSq ?_; refine aCd ?_; intro _; refine spl h (fun c3 h => ?_) (fun c3 h => ?_)
    · refine aSk ?_; refine aSq ?_; refine aBk ?_; refine aSR ?_; intro _; refine dr ?_; refine aSR ?_; intro _; obtain ⟨y8, w4, q5, h⟩ := ix_ok h; refine Exists.intro (cL_cF y8) (And.intro (map_at' w4) ?_); intro _; obtain ⟨z9, u6, h⟩ := ob1_ok h; refine clc rfl (ha1 _ _ u6) hFa1 ?_; intro _; refine pr ?_; refine dr ?_; refine aCd ?_; intro _; refine spl h (fun c7 h => ?_) (fun c7 h => ?_)
      · refine aSR ?_; intro _; refine dr ?_; refine aRt ?_; intro _; obtain rfl := inj1 h; exact ca_0
      · refine aSk ?_; refine aRg ?_; intro _; refine dr ?_; refine ⟨(k7, (IntKind.i64.wrap (x1.2 + 1))), h, ltS m2, ?_⟩; exact ca_0
    · refine aEx ?_; refine aSR ?_; intro _; refine dr ?_; refine aRt ?_; intro _; obtain rfl := inj1 h; exact ca_0
def M_s_ContainsFunc_Fact (a0 : List (List Fact)) (a1 : (List Fact) → Option Bool) : Option (Bool) :=
  ob1 (M_s_IndexFunc_Fact a0 a1) (fun z1 =>
   some (decide (z1 ≥ 0)))
theorem A_s_ContainsFunc_Fact (a0 : List (List Fact)) (a1 : (List Fact) → Option Bool) (Fa1 : AV) (hFa1 : Fr Fa1) (ea1 : ∃ f fs cap, Fa1 = .clo (.func f) fs cap) (ha1 : ∀ (x0 : List Fact) (y0 : Bool), a1 x0 = some y0 → CCl cx Fa1 [.sl 2 (x0.map cF)] (.c (.bool y0))) {r1 : Bool} (h : M_s_ContainsFunc_Fact a0 a1 = some r1) : ACall cx 90 [.sl 1 (a0.map cL_cF), Fa1] (.c (.bool r1)) := by
  obtain ⟨fa1, sa1, qa1, rfl⟩ := ea1; refine aOf Tryz.func90 rfl (by decide) rfl (Nat.le_of_ble_eq_true rfl) ?_; intro _; unfold M_s_ContainsFunc_Fact at h; refine aSR ?_; intro _; refine dr ?_; refine aSR ?_; intro _; obtain ⟨z1, u1, h⟩ := ob1_ok h; refine cl rfl (A_s_IndexFunc_Fact a0 a1 (.clo (.func fa1) sa1 qa1) hFa1 ⟨_, _, _, rfl⟩ ha1 u1) ?_; intro _; refine dr ?_; refine aRt ?_; intro _; obtain rfl := inj1 h; exact ca_0
def M_task_large_1 (a0 : List Fact) : Option (Bool) :=
  some (decide (((a0.map cF).length : Int) > 64))
theorem A_task_large_1 (a0 : List Fact) {r1 : Bool} (h : M_task_large_1 a0 = some r1) : ACall cx 91 [.sl 2 (a0.map cF)] (.c (.bool r1)) := by
  refine aOf Tryz.func91 rfl (by decide) rfl (Nat.le_of_ble_eq_true rfl) ?_; intro _; unfold M_task_large_1 at h; refine aSR ?_; intro _; refine dr ?_; refine aSR ?_; intro _; refine dr ?_; refine aRt ?_; intro _; obtain rfl := inj1 h; exact ca_0
def M_task_large_L1 (a0 : GTask) : Nat → Int → Option (Bool)
  | 0, _ => none
  | k7 + 1, v6 =>
    sel (decide (v6 < ((a0.Ops.map cGOp).length : Int)))
     (ix a0.Ops v6 (fun y8 =>
       sel (decide (((y8.Effs.map cGEffect).length : Int) > 64))
        (some true)
        (M_task_large_L1 a0 k7 (IntKind.i64.wrap (v6 + 1)))))
     (ob1 (M_task_conditions a0) (fun z9 =>
       ob1 (M_s_ContainsFunc_Fact z9 M_task_large_1) (fun z10 =>
        some z10)))
def M_task_large (a0 : GTask) : Option (Bool) :=
  ob1 (sel (decide (((a0.Vars.map cI).length : Int) > 64))
    (some (.inr true))
    (sel (decide (((a0.Ops.map cGOp).length : Int) > 4096))
      (some (.inr true))
      (some (.inl ()))) : Option (Unit ⊕ Bool))
   (osum
   (fun _ => M_task_large_L1 a0 ((((a0.Ops.map cGOp).length : Int)).toNat + 1) 0)
   (fun r1 => some r1))
theorem A_task_large (a0 : GTask) {r1 : Bool} (h : M_task_large a0 = some r1) : ACall cx 67 [.agg [.sl 1 (a0.Vars.map cI), .sl 1 (a0.Init.map cI), .sl 2 (a0.Goal.map cF), .sl 4 (a0.Ops.map cGOp)]] (.c (.bool r1)) := by
  refine aOf Tryz.func67 rfl (by decide) rfl (Nat.le_of_ble_eq_true rfl) ?_; intro _; unfold M_task_large at h; refine aSR ?_; intro _; refine dr ?_; obtain ⟨o1, h, hK2⟩ := ob1_ok h; refine awp_cut (α := Unit) (fun _ => mkS 30 [(1, .ptr 1 0 0 0)] [(1, ⟨26, 4, true, [[.sl 1 (a0.Vars.map cI), .sl 1 (a0.Init.map cI), .sl 2 (a0.Goal.map cF), .sl 4 (a0.Ops.map cGOp)]]⟩)]) (fun v => o1 = (.inl v)) ?_ ?_
  · refine aSR ?_; intro _; refine spf h (fun c3 h => ?_) (fun c3 h => ?_)
    · intro _; refine dr ?_; refine aCd ?_; intro _; refine spl h (fun c4 h => ?_) (fun c4 h => ?_)
      · refine aSR ?_; intro _; refine dr ?_; refine aRt ?_; have j5 := Option.some.inj h; subst j5; replace h := (osum_r hK2); intro _; obtain rfl := inj1 h; exact ca_0
      · refine aSk ?_; refine ⟨(), (Option.some.inj h).symm, ?_⟩; exact ca_0
    · intro _; refine dr ?_; refine aCd ?_; intro _; refine litT ?_; refine aSR ?_; intro _; refine dr ?_; refine aRt ?_; have j6 := Option.some.inj h; subst j6; replace h := (osum_r hK2); intro _; obtain rfl := inj1 h; exact ca_0
  · rintro _ ho; have ho := ho.symm; subst ho; intro _; replace h := (osum_l hK2); refine aSq ?_; refine aSR ?_; intro _; refine dr ?_; refine aBk ?_; refine awp_loop (α := Nat × Int) (fun x => mkS 30 [(1, .ptr 1 0 0 0), (16, .sl 4 (a0.Ops.map cGOp)), (17, .c (.int .i64 ((a0.Ops.map cGOp).length : Int))), (18, .c (.int .i64 x.2))] [(1, ⟨26, 4, true, [[.sl 1 (a0.Vars.map cI), .sl 1 (a0.Init.map cI), .sl 2 (a0.Goal.map cF), .sl 4 (a0.Ops.map cGOp)]]⟩)]) (fun x => M_task_large_L1 a0 x.1 x.2 = some r1) (fun x => x.1) ((((a0.Ops.map cGOp).length : Int)).toNat + 1, 0) h ?_ ?_
    · exact ca_0
    · intro x7 h; intro _; obtain ⟨k7, m8, h⟩ := succ_of (f := fun n => M_task_large_L1 a0 n x7.2) rfl h; replace h : M_task_large_L1 a0 (k7 + 1) x7.2 = some r1 := h; rw [M_task_large_L1] at h; refine aSR ?_; intro _; refine dr ?_; refine aSq ?_; refine aCd ?_; intro _; refine spl h (fun c9 h => ?_) (fun c9 h => ?_)
      · refine aSk ?_; refine aSq ?_; refine aBk ?_; refine aSR ?_; intro _; obtain ⟨y8, w10, q11, h⟩ := ix_ok h; refine Exists.intro (cGOp y8) (And.intro (map_at' w10) ?_); intro _; refine pr ?_; refine dr ?_; refine aSR ?_; intro _; refine dr ?_; refine aCd ?_; intro _; refine spl h (fun c12 h => ?_) (fun c12 h => ?_)
        · refine aSR ?_; intro _; refine dr ?_; refine aRt ?_; intro _; obtain rfl := inj1 h; exact ca_0
        · refine aSk ?_; refine aRg ?_; intro _; refine dr ?_; refine ⟨(k7, (IntKind.i64.wrap (x7.2 + 1))), h, ltS m8, ?_⟩; exact ca_0
      · refine aEx ?_; refine aSR ?_; intro _; obtain ⟨z9, u13, h⟩ := ob1_ok h; refine cl rfl (A_task_conditions a0 u13) ?_; intro _; obtain ⟨z10, u14, h⟩ := ob1_ok h; refine clb [] rfl rfl (A_s_ContainsFunc_Fact z9 M_task_large_1 (.clo (.func 91) [] []) (Fr.clo FrC_nil FrE.h) ⟨_, _, _, rfl⟩ (fun x0 y0 hx => ⟨91, [], _, rfl, A_task_large_1 x0 hx⟩) u14) ?_; intro _; refine dr ?_; refine aRt ?_; intro _; obtain rfl := inj1 h; exact ca_0
def M_task_Proper_L1 (a0 : List Int) (a1 : List Int) : Nat → Int → Option (Bool)
  | 0, _ => none
  | k7 + 1, v6 =>
    sel (decide (v6 < ((a1.map cI).length : Int)))
     (ix a1 v6 (fun y8 =>
       sel (decide (y8 < 0))
        (some false)
        (ix a0 v6 (fun y9 =>
          sel (decide (y8 ≥ y9))
           (some false)
           (M_task_Proper_L1 a0 a1 k7 (IntKind.i64.wrap (v6 + 1)))))))
     (some true)
def M_task_Proper (a0 : List Int) (a1 : List Int) : Option (Bool) :=
  sel (((a1.map cI).length : Int) != ((a0.map cI).length : Int))
   (some false)
   (M_task_Proper_L1 a0 a1 ((((a1.map cI).length : Int)).toNat + 1) 0)
theorem A_task_Proper (a0 : List Int) (a1 : List Int) {r1 : Bool} (h : M_task_Proper a0 a1 = some r1) : ACall cx 68 [.sl 1 (a0.map cI), .sl 1 (a1.map cI)] (.c (.bool r1)) := by
  refine aOf Tryz.func68 rfl (by decide) rfl (Nat.le_of_ble_eq_true rfl) ?_; intro _; unfold M_task_Proper at h; refine aSR ?_; intro _; refine dr ?_; refine aSq ?_; refine aSR ?_; intro _; refine dr ?_; refine aCd ?_; intro _; refine spl h (fun c1 h => ?_) (fun c1 h => ?_)
  · refine aSR ?_; intro _; refine dr ?_; refine aRt ?_; intro _; obtain rfl := inj1 h; exact ca_0
  · refine aSk ?_; refine aSq ?_; refine aSR ?_; intro _; refine dr ?_; refine aBk ?_; refine awp_loop (α := Nat × Int) (fun x => mkS 30 [(0, .sl 1 (a0.map cI)), (12, .sl 1 (a1.map cI)), (13, .c (.int .i64 ((a1.map cI).length : Int))), (14, .c (.int .i64 x.2))] []) (fun x => M_task_Proper_L1 a0 a1 x.1 x.2 = some r1) (fun x => x.1) ((((a1.map cI).length : Int)).toNat + 1, 0) h ?_ ?_
    · exact ca_0
    · intro x2 h; intro _; obtain ⟨k7, m3, h⟩ := succ_of (f := fun n => M_task_Proper_L1 a0 a1 n x2.2) rfl h; replace h : M_task_Proper_L1 a0 a1 (k7 + 1) x2.2 = some r1 := h; rw [M_task_Proper_L1] at h; refine aSR ?_; intro _; refine dr ?_; refine aSq ?_; refine aCd ?_; intro _; refine spl h (fun c4 h => ?_) (fun c4 h => ?_)
      · refine aSk ?_; refine aSq ?_; refine aBk ?_; refine aSR ?_; intro _; obtain ⟨y8, w5, q6, h⟩ := ix_ok h; refine Exists.intro (cI y8) (And.intro (map_at' w5) ?_); intro _; refine pr ?_; refine dr ?_; refine aSR ?_; intro _; refine spf h (fun c7 h => ?_) (fun c7 h => ?_)
        · intro _; obtain ⟨y9, w8, q9, h⟩ := ix_ok h; refine Exists.intro (cI y9) (And.intro (map_at' w8) ?_); intro _; refine pr ?_; refine dr ?_; refine aCd ?_; intro _; refine spl h (fun c10 h => ?_) (fun c10 h => ?_)
          · refine aSR ?_; intro _; refine dr ?_; refine aRt ?_; intro _; obtain rfl := inj1 h; exact ca_0
          · refine aSk ?_; refine aRg ?_; intro _; refine dr ?_; refine ⟨(k7, (IntKind.i64.wrap (x2.2 + 1))), h, ltS m3, ?_⟩; exact ca_0
        · intro _; refine dr ?_; refine aCd ?_; intro _; refine litT ?_; refine aSR ?_; intro _; refine dr ?_; refine aRt ?_; intro _; obtain rfl := inj1 h; exact ca_0
      · refine aEx ?_; refine aSR ?_; intro _; refine dr ?_; refine aRt ?_; intro _; obtain rfl := inj1 h; exact ca_0
def M_task_Facts_L1 (a0 : List Int) (a1 : List Fact) : Nat → Int → Int → Option (Bool)
  | 0, _, _ => none
  | k9 + 1, v7, v8 =>
    sel (decide (v8 < ((a1.map cF).length : Int)))
     (ix a1 v8 (fun y10 =>
       sel (decide (y10.1 ≤ v7))
        (some false)
        (sel (decide (y10.1 ≥ ((a0.map cI).length : Int)))
          (some false)
          (sel (decide (y10.2 < 0))
            (some false)
            (ix a0 y10.1 (fun y11 =>
              sel (decide (y10.2 ≥ y11))
               (some false)
               (M_task_Facts_L1 a0 a1 k9 y10.1 (IntKind.i64.wrap (v8 + 1)))))))))
     (some true)
def M_task_Facts (a0 : List Int) (a1 : List Fact) : Option (Bool) :=
  M_task_Facts_L1 a0 a1 ((((a1.map cF).length : Int)).toNat + 1) (-1) 0
theorem A_task_Facts (a0 : List Int) (a1 : List Fact) {r1 : Bool} (h : M_task_Facts a0 a1 = some r1) : ACall cx 70 [.sl 1 (a0.map cI), .sl 2 (a1.map cF)] (.c (.bool r1)) := by
  refine aOf Tryz.func70 rfl (by decide) rfl (Nat.le_of_ble_eq_true rfl) ?_; intro _; unfold M_task_Facts at h; refine aSR ?_; intro _; refine dr ?_; refine aSR ?_; intro _; refine dr ?_; refine aSq ?_; refine aSR ?_; intro _; refine dr ?_; refine aBk ?_; refine awp_loop (α := Nat × Int × Int) (fun x => mkS 43 [(0, .sl 1 (a0.map cI)), (5, .c (.int .i64 x.2.1)), (8, .sl 2 (a1.map cF)), (9, .c (.int .i64 ((a1.map cF).length : Int))), (10, .c (.int .i64 x.2.2))] []) (fun x => M_task_Facts_L1 a0 a1 x.1 x.2.1 x.2.2 = some r1) (fun x => x.1) ((((a1.map cF).length : Int)).toNat + 1, (-1), 0) h ?_ ?_
  · exact ca_0
  · intro x1 h; intro _; obtain ⟨k9, m2, h⟩ := succ_of (f := fun n => M_task_Facts_L1 a0 a1 n x1.2.1 x1.2.2) rfl h; replace h : M_task_Facts_L1 a0 a1 (k9 + 1) x1.2.1 x1.2.2 = some r1 := h; rw [M_task_Facts_L1] at h; refine aSR ?_; intro _; refine dr ?_; refine aSq ?_; refine aCd ?_; intro _; refine spl h (fun c3 h => ?_) (fun c3 h => ?_)
    · refine aSk ?_; refine aSq ?_; refine aBk ?_; refine aSR ?_; intro _; obtain ⟨y10, w4, q5, h⟩ := ix_ok h; refine Exists.intro (cF y10) (And.intro (map_at' w4) ?_); intro _; refine pr ?_; refine dr ?_; refine aSq ?_; refine aSR ?_; intro _; refine spf h (fun c6 h => ?_) (fun c6 h => ?_)
      · intro _; refine spf h (fun c7 h => ?_) (fun c7 h => ?_)
        · intro _; refine spf h (fun c8 h => ?_) (fun c8 h => ?_)
          · intro _; obtain ⟨y11, w9, q10, h⟩ := ix_ok h; refine Exists.intro (cI y11) (And.intro (map_at' w9) ?_); intro _; refine pr ?_; refine dr ?_; refine aCd ?_; intro _; refine spl h (fun c11 h => ?_) (fun c11 h => ?_)
            · refine aSR ?_; intro _; refine dr ?_; refine aRt ?_; intro _; obtain rfl := inj1 h; exact ca_0
            · refine aSk ?_; refine aRg ?_; intro _; refine dr ?_; refine aRg ?_; intro _; refine dr ?_; refine ⟨(k9, y10.1, (IntKind.i64.wrap (x1.2.2 + 1))), h, ltS m2, ?_⟩; exact ca_0
          · intro _; refine dr ?_; refine aCd ?_; intro _; refine litT ?_; refine aSR ?_; intro _; refine dr ?_; refine aRt ?_; intro _; obtain rfl := inj1 h; exact ca_0
        · intro _; refine dr ?_; refine aCd ?_; intro _; refine litT ?_; refine aSR ?_; intro _; refine dr ?_; refine aRt ?_; intro _; obtain rfl := inj1 h; exact ca_0
      · intro _; refine dr ?_; refine aCd ?_; intro _; refine litT ?_; refine aSR ?_; intro _; refine dr ?_; refine aRt ?_; intro _; obtain rfl := inj1 h; exact ca_0
    · refine aEx ?_; refine aSR ?_; intro _; refine dr ?_; refine aRt ?_; intro _; obtain rfl := inj1 h; exact ca_0
def M_task_named_L1 (a0 : ByteArray) : Nat → Int → Option (Bool)
  | 0, _ => none
  | k3 + 1, v2 =>
    sel (decide (v2 < (a0.size : Int)))
     (sel (decide ((byt a0 v2) < 32))
       (grd (0 ≤ v2) (grd (v2 < (a0.size : Int)) (some false)))
       (grd (0 ≤ v2) (grd (v2 < (a0.size : Int)) (sel (decide ((byt a0 v2) > 126))
         (some false)
         (M_task_named_L1 a0 k3 (IntKind.i64.wrap (v2 + 1)))))))
     (some (decide ((a0.size : Int) ≤ 256)))
def M_task_named (a0 : ByteArray) : Option (Bool) :=
  M_task_named_L1 a0 (((a0.size : Int)).toNat + 1) 0
theorem A_task_named (a0 : ByteArray) {r1 : Bool} (h : M_task_named a0 = some r1) : ACall cx 71 [.c (.string a0)] (.c (.bool r1)) := by
  refine aOf Tryz.func71 rfl (by decide) rfl (Nat.le_of_ble_eq_true rfl) ?_; intro _; unfold M_task_named at h; refine aSR ?_; intro _; refine dr ?_; refine aSq ?_; refine aSR ?_; intro _; refine dr ?_; refine aBk ?_; refine awp_loop (α := Nat × Int) (fun x => mkS 23 [(0, .c (.string a0)), (5, .c (.int .i64 (a0.size : Int))), (6, .c (.int .i64 x.2))] []) (fun x => M_task_named_L1 a0 x.1 x.2 = some r1) (fun x => x.1) (((a0.size : Int)).toNat + 1, 0) h ?_ ?_
  · exact ca_0
  · intro x1 h; intro _; obtain ⟨k3, m2, h⟩ := succ_of (f := fun n => M_task_named_L1 a0 n x1.2) rfl h; replace h : M_task_named_L1 a0 (k3 + 1) x1.2 = some r1 := h; rw [M_task_named_L1] at h; refine aSR ?_; intro _; refine dr ?_; refine aSq ?_; refine aCd ?_; intro _; refine spl h (fun c3 h => ?_) (fun c3 h => ?_)
    · refine aSk ?_; refine aSq ?_; refine aBk ?_; refine aSR ?_; intro _; refine dr ?_; refine aSR ?_; intro _; refine spf h (fun c4 h => ?_) (fun c4 h => ?_)
      · intro _; obtain ⟨q5, h⟩ := grd_ok h; obtain ⟨q6, h⟩ := grd_ok h; refine pr ?_; refine pr ?_; refine pr ?_; refine pr ?_; refine dr ?_; refine aCd ?_; intro _; refine spl h (fun c7 h => ?_) (fun c7 h => ?_)
        · refine aSR ?_; intro _; refine dr ?_; refine aRt ?_; intro _; obtain rfl := inj1 h; exact ca_0
        · refine aSk ?_; refine aRg ?_; intro _; refine dr ?_; refine ⟨(k3, (IntKind.i64.wrap (x1.2 + 1))), h, ltS m2, ?_⟩; exact ca_0
      · intro _; obtain ⟨q8, h⟩ := grd_ok h; obtain ⟨q9, h⟩ := grd_ok h; refine pr ?_; refine pr ?_; refine dr ?_; refine aCd ?_; intro _; refine litT ?_; refine aSR ?_; intro _; refine dr ?_; refine aRt ?_; intro _; obtain rfl := inj1 h; exact ca_0
    · refine aEx ?_; refine aSR ?_; intro _; refine dr ?_; refine aRt ?_; intro _; obtain rfl := inj1 h; exact ca_0
def M_task_Check_L1 (a0 : GTask) : Nat → Int → Option (Unit ⊕ Er)
  | 0, _ => none
  | k14 + 1, v13 =>
    sel (decide (v13 < ((a0.Vars.map cI).length : Int)))
     (ix a0.Vars v13 (fun y15 =>
       sel (decide (y15 < 1))
        (some (.inr (Er.no 1)))
        (sel (decide (y15 > 64))
          (some (.inr (Er.no 1)))
          (M_task_Check_L1 a0 k14 (IntKind.i64.wrap (v13 + 1))))))
     (some (.inl ()))
def M_task_Check_L2 (a0 : GTask) : Nat → Int → Option (Unit ⊕ Er)
  | 0, _ => none
  | k28 + 1, v27 =>
    sel (decide (v27 < ((a0.Ops.map cGOp).length : Int)))
     (ix a0.Ops v27 (fun y29 =>
       sel (decide (y29.Cost < 0))
        (some (.inr (Er.no 1)))
        (sel (decide (y29.Cost > 1048576))
          (some (.inr (Er.no 1)))
          (M_task_Check_L2 a0 k28 (IntKind.i64.wrap (v27 + 1))))))
     (some (.inl ()))
def M_task_Check_L3 (a0 : GTask) (z43 : List (List Fact)) : Nat → Int → Option (Unit ⊕ Er)
  | 0, _ => none
  | k50 + 1, v49 =>
    sel (decide (v49 < ((z43.map cL_cF).length : Int)))
     (ix z43 v49 (fun y51 =>
       ob1 (M_task_Facts a0.Vars y51) (fun z52 =>
        sel (!z52)
         (some (.inr (Er.no 2)))
         (M_task_Check_L3 a0 z43 k50 (IntKind.i64.wrap (v49 + 1))))))
     (some (.inl ()))
def M_task_Check_L4 (a0 : GTask) (y183 : GOp) : Nat → Int → Option (Unit ⊕ Er)
  | 0, _ => none
  | k190 + 1, v189 =>
    sel (decide (v189 < ((y183.Effs.map cGEffect).length : Int)))
     (ix y183.Effs v189 (fun y191 =>
       ob1 (M_task_Facts a0.Vars [(y191.Var, y191.Val)]) (fun z192 =>
        sel (!z192)
         (some (.inr (Er.no 2)))
         (M_task_Check_L4 a0 y183 k190 (IntKind.i64.wrap (v189 + 1))))))
     (some (.inl ()))
def M_task_Check_L5 (a0 : GTask) : Nat → Int → Option (Unit ⊕ Er)
  | 0, _ => none
  | k170 + 1, v169 =>
    sel (decide (v169 < ((a0.Ops.map cGOp).length : Int)))
     (ob1 (ix a0.Ops v169 (fun y183 =>
        M_task_Check_L4 a0 y183 ((((y183.Effs.map cGEffect).length : Int)).toNat + 1) 0) : Option (Unit ⊕ Er))
       (osum
       (fun _ => M_task_Check_L5 a0 k170 (IntKind.i64.wrap (v169 + 1)))
       (fun r181 => some (.inr r181))))
     (some (.inl ()))
def M_task_Check_L6 (a0 : GTask) : Nat → Int → Option (Er)
  | 0, _ => none
  | k199 + 1, v198 =>
    sel (decide (v198 < ((a0.Ops.map cGOp).length : Int)))
     (ix a0.Ops v198 (fun y200 =>
       ob1 (M_task_named y200.Name) (fun z201 =>
        sel (!z201)
         (some (Er.no 8))
         (M_task_Check_L6 a0 k199 (IntKind.i64.wrap (v198 + 1))))))
     (some Er.nil)
def M_task_Check (a0 : GTask) : Option (Er) :=
  ob1 (M_task_large a0) (fun z1 =>
   sel z1
    (some (Er.no 5))
    (ob1 (M_task_Check_L1 a0 ((((a0.Vars.map cI).length : Int)).toNat + 1) 0 : Option (Unit ⊕ Er))
      (osum
      (fun _ => ob1 (M_task_Check_L2 a0 ((((a0.Ops.map cGOp).length : Int)).toNat + 1) 0 : Option (Unit ⊕ Er))
         (osum
         (fun _ => ob1 (M_task_Proper a0.Vars a0.Init) (fun z30 =>
            sel (!z30)
             (some (Er.no 2))
             (ob1 (ob1 (M_task_conditions a0) (fun z43 =>
                M_task_Check_L3 a0 z43 ((((z43.map cL_cF).length : Int)).toNat + 1) 0) : Option (Unit ⊕ Er))
               (osum
               (fun _ => ob1 (M_task_Check_L5 a0 ((((a0.Ops.map cGOp).length : Int)).toNat + 1) 0 : Option (Unit ⊕ Er))
                  (osum
                  (fun _ => M_task_Check_L6 a0 ((((a0.Ops.map cGOp).length : Int)).toNat + 1) 0)
                  (fun r122 => some r122)))
               (fun r41 => some r41)))))
         (fun r22 => some r22)))
      (fun r8 => some r8))))
theorem A_task_Check (a0 : GTask) {r1 : Er} (h : M_task_Check a0 = some r1) : ACall cx 37 [.agg [.sl 1 (a0.Vars.map cI), .sl 1 (a0.Init.map cI), .sl 2 (a0.Goal.map cF), .sl 4 (a0.Ops.map cGOp)]] (eA r1) := by
  refine aOf Tryz.func37 rfl (by decide) rfl (Nat.le_of_ble_eq_true rfl) ?_; intro _; unfold M_task_Check at h; refine aSR ?_; intro _; refine dr ?_; refine aSq ?_; refine aSR ?_; intro _; obtain ⟨z1, u1, h⟩ := ob1_ok h; refine cl rfl (A_task_large a0 u1) ?_; intro _; refine dr ?_; refine aCd ?_; intro _; refine spl h (fun c2 h => ?_) (fun c2 h => ?_)
  · refine aSR ?_; intro _; refine dr ?_; refine aRt ?_; intro _; obtain rfl := inj1 h; exact ca_0
  · refine aSk ?_; obtain ⟨o3, h, hK4⟩ := ob1_ok h; refine awp_cut (α := Unit) (fun _ => mkS 111 [(1, .ptr 1 0 0 0)] [(1, ⟨26, 4, true, [[.sl 1 (a0.Vars.map cI), .sl 1 (a0.Init.map cI), .sl 2 (a0.Goal.map cF), .sl 4 (a0.Ops.map cGOp)]]⟩)]) (fun v => o3 = (.inl v)) ?_ ?_
    · refine aSR ?_; intro _; refine dr ?_; refine aBk ?_; refine awp_loop (α := Nat × Int) (fun x => mkS 111 [(1, .ptr 1 0 0 0), (19, .sl 1 (a0.Vars.map cI)), (20, .c (.int .i64 ((a0.Vars.map cI).length : Int))), (21, .c (.int .i64 x.2))] [(1, ⟨26, 4, true, [[.sl 1 (a0.Vars.map cI), .sl 1 (a0.Init.map cI), .sl 2 (a0.Goal.map cF), .sl 4 (a0.Ops.map cGOp)]]⟩)]) (fun x => M_task_Check_L1 a0 x.1 x.2 = some o3) (fun x => x.1) ((((a0.Vars.map cI).length : Int)).toNat + 1, 0) h ?_ ?_
      · exact ca_0
      · intro x5 h; intro _; obtain ⟨k14, m6, h⟩ := succ_of (f := fun n => M_task_Check_L1 a0 n x5.2) rfl h; replace h : M_task_Check_L1 a0 (k14 + 1) x5.2 = some o3 := h; rw [M_task_Check_L1] at h; refine aSR ?_; intro _; refine dr ?_; refine aSq ?_; refine aCd ?_; intro _; refine spl h (fun c7 h => ?_) (fun c7 h => ?_)
        · refine aSk ?_; refine aSq ?_; refine aBk ?_; refine aSR ?_; intro _; obtain ⟨y15, w8, q9, h⟩ := ix_ok h; refine Exists.intro (cI y15) (And.intro (map_at' w8) ?_); intro _; refine pr ?_; refine dr ?_; refine aSR ?_; intro _; refine spf h (fun c10 h => ?_) (fun c10 h => ?_)
          · intro _; refine dr ?_; refine aCd ?_; intro _; refine spl h (fun c11 h => ?_) (fun c11 h => ?_)
            · refine aSR ?_; intro _; refine dr ?_; refine aRt ?_; have j12 := Option.some.inj h; subst j12; replace h := (osum_r hK4); intro _; obtain rfl := inj1 h; exact ca_0
            · refine aSk ?_; refine aRg ?_; intro _; refine dr ?_; refine ⟨(k14, (IntKind.i64.wrap (x5.2 + 1))), h, ltS m6, ?_⟩; exact ca_0
          · intro _; refine dr ?_; refine aCd ?_; intro _; refine litT ?_; refine aSR ?_; intro _; refine dr ?_; refine aRt ?_; have j13 := Option.some.inj h; subst j13; replace h := (osum_r hK4); intro _; obtain rfl := inj1 h; exact ca_0
        · refine aEx ?_; refine ⟨(), (Option.some.inj h).symm, ?_⟩; exact ca_0
    · rintro _ ho; have ho := ho.symm; subst ho; intro _; replace h := (osum_l hK4); obtain ⟨o14, h, hK15⟩ := ob1_ok h; refine awp_cut (α := Unit) (fun _ => mkS 111 [(1, .ptr 1 0 0 0)] [(1, ⟨26, 4, true, [[.sl 1 (a0.Vars.map cI), .sl 1 (a0.Init.map cI), .sl 2 (a0.Goal.map cF), .sl 4 (a0.Ops.map cGOp)]]⟩)]) (fun v => o14 = (.inl v)) ?_ ?_
      · refine aSR ?_; intro _; refine dr ?_; refine aBk ?_; refine awp_loop (α := Nat × Int) (fun x => mkS 111 [(1, .ptr 1 0 0 0), (34, .sl 4 (a0.Ops.map cGOp)), (35, .c (.int .i64 ((a0.Ops.map cGOp).length : Int))), (36, .c (.int .i64 x.2))] [(1, ⟨26, 4, true, [[.sl 1 (a0.Vars.map cI), .sl 1 (a0.Init.map cI), .sl 2 (a0.Goal.map cF), .sl 4 (a0.Ops.map cGOp)]]⟩)]) (fun x => M_task_Check_L2 a0 x.1 x.2 = some o14) (fun x => x.1) ((((a0.Ops.map cGOp).length : Int)).toNat + 1, 0) h ?_ ?_
        · exact ca_0
        · intro x16 h; intro _; obtain ⟨k28, m17, h⟩ := succ_of (f := fun n => M_task_Check_L2 a0 n x16.2) rfl h; replace h : M_task_Check_L2 a0 (k28 + 1) x16.2 = some o14 := h; rw [M_task_Check_L2] at h; refine aSR ?_; intro _; refine dr ?_; refine aSq ?_; refine aCd ?_; intro _; refine spl h (fun c18 h => ?_) (fun c18 h => ?_)
          · refine aSk ?_; refine aSq ?_; refine aBk ?_; refine aSR ?_; intro _; obtain ⟨y29, w19, q20, h⟩ := ix_ok h; refine Exists.intro (cGOp y29) (And.intro (map_at' w19) ?_); intro _; refine pr ?_; refine dr ?_; refine aSR ?_; intro _; refine spf h (fun c21 h => ?_) (fun c21 h => ?_)
            · intro _; refine dr ?_; refine aCd ?_; intro _; refine spl h (fun c22 h => ?_) (fun c22 h => ?_)
              · refine aSR ?_; intro _; refine dr ?_; refine aRt ?_; have j23 := Option.some.inj h; subst j23; replace h := (osum_r hK15); intro _; obtain rfl := inj1 h; exact ca_0
              · refine aSk ?_; refine aRg ?_; intro _; refine dr ?_; refine ⟨(k28, (IntKind.i64.wrap (x16.2 + 1))), h, ltS m17, ?_⟩; exact ca_0
            · intro _; refine dr ?_; refine aCd ?_; intro _; refine litT ?_; refine aSR ?_; intro _; refine dr ?_; refine aRt ?_; have j24 := Option.some.inj h; subst j24; replace h := (osum_r hK15); intro _; obtain rfl := inj1 h; exact ca_0
          · refine aEx ?_; refine ⟨(), (Option.some.inj h).symm, ?_⟩; exact ca_0
      · rintro _ ho; have ho := ho.symm; subst ho; intro _; replace h := (osum_l hK15); refine aSq ?_; refine aSR ?_; intro _; obtain ⟨z30, u25, h⟩ := ob1_ok h; refine cl rfl (A_task_Proper a0.Vars a0.Init u25) ?_; intro _; refine dr ?_; refine aCd ?_; intro _; refine spl h (fun c26 h => ?_) (fun c26 h => ?_)
        · refine aSR ?_; intro _; refine dr ?_; refine aRt ?_; intro _; obtain rfl := inj1 h; exact ca_0
        · refine aSk ?_; obtain ⟨o27, h, hK28⟩ := ob1_ok h; refine awp_cut (α := Unit) (fun _ => mkS 111 [(1, .ptr 1 0 0 0)] [(1, ⟨26, 4, true, [[.sl 1 (a0.Vars.map cI), .sl 1 (a0.Init.map cI), .sl 2 (a0.Goal.map cF), .sl 4 (a0.Ops.map cGOp)]]⟩)]) (fun v => o27 = (.inl v)) ?_ ?_
          · refine aSR ?_; intro _; obtain ⟨z43, u29, h⟩ := ob1_ok h; refine cl rfl (A_task_conditions a0 u29) ?_; intro _; refine dr ?_; refine aBk ?_; refine awp_loop (α := Nat × Int) (fun x => mkS 111 [(1, .ptr 1 0 0 0), (58, .sl 1 (z43.map cL_cF)), (59, .c (.int .i64 ((z43.map cL_cF).length : Int))), (60, .c (.int .i64 x.2))] [(1, ⟨26, 4, true, [[.sl 1 (a0.Vars.map cI), .sl 1 (a0.Init.map cI), .sl 2 (a0.Goal.map cF), .sl 4 (a0.Ops.map cGOp)]]⟩)]) (fun x => M_task_Check_L3 a0 z43 x.1 x.2 = some o27) (fun x => x.1) ((((z43.map cL_cF).length : Int)).toNat + 1, 0) h ?_ ?_
            · exact ca_0
            · intro x30 h; intro _; obtain ⟨k50, m31, h⟩ := succ_of (f := fun n => M_task_Check_L3 a0 z43 n x30.2) rfl h; replace h : M_task_Check_L3 a0 z43 (k50 + 1) x30.2 = some o27 := h; rw [M_task_Check_L3] at h; refine aSR ?_; intro _; refine dr ?_; refine aSq ?_; refine aCd ?_; intro _; refine spl h (fun c32 h => ?_) (fun c32 h => ?_)
              · refine aSk ?_; refine aSq ?_; refine aBk ?_; refine aSR ?_; intro _; obtain ⟨y51, w33, q34, h⟩ := ix_ok h; refine Exists.intro (cL_cF y51) (And.intro (map_at' w33) ?_); intro _; refine pr ?_; refine dr ?_; refine aSR ?_; intro _; obtain ⟨z52, u35, h⟩ := ob1_ok h; refine cl rfl (A_task_Facts a0.Vars y51 u35) ?_; intro _; refine dr ?_; refine aCd ?_; intro _; refine spl h (fun c36 h => ?_) (fun c36 h => ?_)
                · refine aSR ?_; intro _; refine dr ?_; refine aRt ?_; have j37 := Option.some.inj h; subst j37; replace h := (osum_r hK28); intro _; obtain rfl := inj1 h; exact ca_0
                · refine aSk ?_; refine aRg ?_; intro _; refine dr ?_; refine ⟨(k50, (IntKind.i64.wrap (x30.2 + 1))), h, ltS m31, ?_⟩; exact ca_0
              · refine aEx ?_; refine ⟨(), (Option.some.inj h).symm, ?_⟩; exact ca_0
          · rintro _ ho; have ho := ho.symm; subst ho; intro _; replace h := (osum_l hK28); obtain ⟨o38, h, hK39⟩ := ob1_ok h; refine awp_cut (α := Unit) (fun _ => mkS 111 [(1, .ptr 1 0 0 0)] [(1, ⟨26, 4, true, [[.sl 1 (a0.Vars.map cI), .sl 1 (a0.Init.map cI), .sl 2 (a0.Goal.map cF), .sl 4 (a0.Ops.map cGOp)]]⟩)]) (fun v => o38 = (.inl v)) ?_ ?_
            · refine aSR ?_; intro _; refine dr ?_; refine aBk ?_; refine awp_loop (α := Nat × Int) (fun x => mkS 111 [(1, .ptr 1 0 0 0), (72, .sl 4 (a0.Ops.map cGOp)), (73, .c (.int .i64 ((a0.Ops.map cGOp).length : Int))), (74, .c (.int .i64 x.2))] [(1, ⟨26, 4, true, [[.sl 1 (a0.Vars.map cI), .sl 1 (a0.Init.map cI), .sl 2 (a0.Goal.map cF), .sl 4 (a0.Ops.map cGOp)]]⟩)]) (fun x => M_task_Check_L5 a0 x.1 x.2 = some o38) (fun x => x.1) ((((a0.Ops.map cGOp).length : Int)).toNat + 1, 0) h ?_ ?_
              · exact ca_0
              · intro x40 h; intro _; obtain ⟨k170, m41, h⟩ := succ_of (f := fun n => M_task_Check_L5 a0 n x40.2) rfl h; replace h : M_task_Check_L5 a0 (k170 + 1) x40.2 = some o38 := h; rw [M_task_Check_L5] at h; refine aSR ?_; intro _; refine dr ?_; refine aSq ?_; refine aCd ?_; intro _; refine spl h (fun c42 h => ?_) (fun c42 h => ?_)
                · refine aSk ?_; obtain ⟨o43, h, hK44⟩ := ob1_ok h; refine awp_cut (α := Unit) (fun _ => mkS 111 [(1, .ptr 1 0 0 0), (72, .sl 4 (a0.Ops.map cGOp)), (73, .c (.int .i64 ((a0.Ops.map cGOp).length : Int))), (74, .c (.int .i64 x40.2))] [(1, ⟨26, 4, true, [[.sl 1 (a0.Vars.map cI), .sl 1 (a0.Init.map cI), .sl 2 (a0.Goal.map cF), .sl 4 (a0.Ops.map cGOp)]]⟩)]) (fun v => o43 = (.inl v)) ?_ ?_
                  · refine aBk ?_; refine aSR ?_; intro _; obtain ⟨y183, w45, q46, h⟩ := ix_ok h; refine Exists.intro (cGOp y183) (And.intro (map_at' w45) ?_); intro _; refine pr ?_; refine dr ?_; refine aSR ?_; intro _; refine dr ?_; refine aBk ?_; refine awp_loop (α := Nat × Int) (fun x => mkS 111 [(1, .ptr 1 0 0 0), (72, .sl 4 (a0.Ops.map cGOp)), (73, .c (.int .i64 ((a0.Ops.map cGOp).length : Int))), (74, .c (.int .i64 x40.2)), (79, .sl 3 (y183.Effs.map cGEffect)), (80, .c (.int .i64 ((y183.Effs.map cGEffect).length : Int))), (81, .c (.int .i64 x.2))] [(1, ⟨26, 4, true, [[.sl 1 (a0.Vars.map cI), .sl 1 (a0.Init.map cI), .sl 2 (a0.Goal.map cF), .sl 4 (a0.Ops.map cGOp)]]⟩)]) (fun x => M_task_Check_L4 a0 y183 x.1 x.2 = some o43) (fun x => x.1) ((((y183.Effs.map cGEffect).length : Int)).toNat + 1, 0) h ?_ ?_
                    · exact ca_0
                    · intro x47 h; intro _; obtain ⟨k190, m48, h⟩ := succ_of (f := fun n => M_task_Check_L4 a0 y183 n x47.2) rfl h; replace h : M_task_Check_L4 a0 y183 (k190 + 1) x47.2 = some o43 := h; rw [M_task_Check_L4] at h; refine aSR ?_; intro _; refine dr ?_; refine aSq ?_; refine aCd ?_; intro _; refine spl h (fun c49 h => ?_) (fun c49 h => ?_)
                      · refine aSk ?_; refine aSq ?_; refine aBk ?_; refine aSR ?_; intro _; obtain ⟨y191, w50, q51, h⟩ := ix_ok h; refine Exists.intro (cGEffect y191) (And.intro (map_at' w50) ?_); intro _; refine pr ?_; refine dr ?_; refine aSR ?_; intro _; obtain ⟨z192, u52, h⟩ := ob1_ok h; refine clb [92] rfl rfl (A_task_Facts a0.Vars [(y191.Var, y191.Val)] u52) ?_; intro _; refine dr ?_; refine aCd ?_; intro _; refine spl h (fun c53 h => ?_) (fun c53 h => ?_)
                        · refine aSR ?_; intro _; refine dr ?_; refine aRt ?_; have j54 := Option.some.inj h; subst j54; replace h := (osum_r hK44); have j55 := Option.some.inj h; subst j55; replace h := (osum_r hK39); intro _; obtain rfl := inj1 h; exact ca_0
                        · refine aSk ?_; refine aRg ?_; intro _; refine dr ?_; refine ⟨(k190, (IntKind.i64.wrap (x47.2 + 1))), h, ltS m48, ?_⟩; exact ca_0
                      · refine aEx ?_; refine ⟨(), (Option.some.inj h).symm, ?_⟩; exact ca_0
                  · rintro _ ho; have ho := ho.symm; subst ho; intro _; replace h := (osum_l hK44); refine aRg ?_; intro _; refine dr ?_; refine ⟨(k170, (IntKind.i64.wrap (x40.2 + 1))), h, ltS m41, ?_⟩; exact ca_0
                · refine aEx ?_; refine ⟨(), (Option.some.inj h).symm, ?_⟩; exact ca_0
            · rintro _ ho; have ho := ho.symm; subst ho; intro _; replace h := (osum_l hK39); refine aSq ?_; refine aSR ?_; intro _; refine dr ?_; refine aBk ?_; refine awp_loop (α := Nat × Int) (fun x => mkS 111 [(99, .sl 4 (a0.Ops.map cGOp)), (100, .c (.int .i64 ((a0.Ops.map cGOp).length : Int))), (101, .c (.int .i64 x.2))] []) (fun x => M_task_Check_L6 a0 x.1 x.2 = some r1) (fun x => x.1) ((((a0.Ops.map cGOp).length : Int)).toNat + 1, 0) h ?_ ?_
              · exact ca_0
              · intro x56 h; intro _; obtain ⟨k199, m57, h⟩ := succ_of (f := fun n => M_task_Check_L6 a0 n x56.2) rfl h; replace h : M_task_Check_L6 a0 (k199 + 1) x56.2 = some r1 := h; rw [M_task_Check_L6] at h; refine aSR ?_; intro _; refine dr ?_; refine aSq ?_; refine aCd ?_; intro _; refine spl h (fun c58 h => ?_) (fun c58 h => ?_)
                · refine aSk ?_; refine aSq ?_; refine aBk ?_; refine aSR ?_; intro _; obtain ⟨y200, w59, q60, h⟩ := ix_ok h; refine Exists.intro (cGOp y200) (And.intro (map_at' w59) ?_); intro _; refine pr ?_; refine dr ?_; refine aSR ?_; intro _; obtain ⟨z201, u61, h⟩ := ob1_ok h; refine cl rfl (A_task_named y200.Name u61) ?_; intro _; refine dr ?_; refine aCd ?_; intro _; refine spl h (fun c62 h => ?_) (fun c62 h => ?_)
                  · refine aSR ?_; intro _; refine dr ?_; refine aRt ?_; intro _; obtain rfl := inj1 h; exact ca_0
                  · refine aSk ?_; refine aRg ?_; intro _; refine dr ?_; refine ⟨(k199, (IntKind.i64.wrap (x56.2 + 1))), h, ltS m57, ?_⟩; exact ca_0
                · refine aEx ?_; refine aSR ?_; intro _; refine dr ?_; refine aRt ?_; intro _; obtain rfl := inj1 h; exact ca_0
def M_g_silent_L1 (y102 : Fact) (y103 : Int) : Nat → Int → (List (List Fact)) → Option (List (List Fact))
  | 0, _, _ => none
  | k108 + 1, v106, v107 =>
    sel (decide (v106 < y103))
     (sel (v106 != y102.2)
       (grd ((v107.length + 1) * 24 ≤ 140737488355328) (M_g_silent_L1 y102 y103 k108 (IntKind.i64.wrap (v106 + 1)) (v107 ++ [[(y102.1, v106)]])))
       (M_g_silent_L1 y102 y103 k108 (IntKind.i64.wrap (v106 + 1)) v107))
     (some v107)
def M_g_silent_L2 (a0 : List Int) (a1 : GEffect) : Nat → Int → (List (List Fact)) → Option (List (List Fact))
  | 0, _, _ => none
  | k92 + 1, v90, v91 =>
    sel (decide (v90 < ((a1.When.map cF).length : Int)))
     (ob1 (ix a1.When v90 (fun y102 =>
        ix a0 y102.1 (fun y103 =>
         M_g_silent_L1 y102 y103 ((y103).toNat + 1) 0 v91)) : Option (List (List Fact)))
       (fun v100 => M_g_silent_L2 a0 a1 k92 (IntKind.i64.wrap (v90 + 1)) v100))
     (some v91)
def M_g_silent (a0 : List Int) (a1 : GEffect) : Option ((List (List Fact)) × Er) :=
  ob1 (M_g_silent_L2 a0 a1 ((((a1.When.map cF).length : Int)).toNat + 1) 0 [] : Option (List (List Fact)))
   (fun v54 => sel (decide (((v54.length : Nat) : Int) > 1024))
      (some ([], (Er.no 5)))
      (grd (v54.length ≤ 140737488355328) (some (v54, Er.nil))))
theorem A_g_silent (a0 : List Int) (a1 : GEffect) {r1 : List (List Fact)} {r2 : Er} (h : M_g_silent a0 a1 = some (r1, r2)) : ACall cx 105 [.sl 1 (a0.map cI), .agg [.sl 2 (a1.When.map cF), .c (.int .i64 a1.Var), .c (.int .i64 a1.Val)]] (.tup [.sl 1 (r1.map cL_cF), eA r2]) := by
  refine aOf Tryz.func105 rfl (by decide) rfl (Nat.le_of_ble_eq_true rfl) ?_; intro _; unfold M_g_silent at h; refine aSR ?_; intro _; refine dr ?_; refine aSR ?_; intro _; refine dr ?_; obtain ⟨o1, h, hK2⟩ := ob1_ok h; refine awp_cut (α := List (List Fact)) (fun v54 => mkS 44 [(6, .own 36 0 0 v54.length)] [(36, ⟨23, 1, false, v54.map cL_cF⟩)]) (fun v => o1 = v) ?_ ?_
  · refine aSR ?_; intro _; refine dr ?_; refine aBk ?_; refine awp_loop (α := Nat × Int × (List (List Fact))) (fun x => mkS 44 [(0, .sl 1 (a0.map cI)), (6, .own 36 0 0 x.2.2.length), (11, .sl 2 (a1.When.map cF)), (12, .c (.int .i64 ((a1.When.map cF).length : Int))), (13, .c (.int .i64 x.2.1))] [(36, ⟨23, 1, false, x.2.2.map cL_cF⟩)]) (fun x => M_g_silent_L2 a0 a1 x.1 x.2.1 x.2.2 = some o1) (fun x => x.1) ((((a1.When.map cF).length : Int)).toNat + 1, 0, []) h ?_ ?_
    · exact ca_0
    · intro x3 h; intro _; obtain ⟨k92, m4, h⟩ := succ_of (f := fun n => M_g_silent_L2 a0 a1 n x3.2.1 x3.2.2) rfl h; replace h : M_g_silent_L2 a0 a1 (k92 + 1) x3.2.1 x3.2.2 = some o1 := h; rw [M_g_silent_L2] at h; refine aSR ?_; intro _; refine dr ?_; refine aSq ?_; refine aCd ?_; intro _; refine spl h (fun c5 h => ?_) (fun c5 h => ?_)
      · refine aSk ?_; obtain ⟨o6, h, hK7⟩ := ob1_ok h; refine awp_cut (α := List (List Fact)) (fun v100 => mkS 44 [(0, .sl 1 (a0.map cI)), (6, .own 36 0 0 v100.length), (11, .sl 2 (a1.When.map cF)), (12, .c (.int .i64 ((a1.When.map cF).length : Int))), (13, .c (.int .i64 x3.2.1))] [(36, ⟨23, 1, false, v100.map cL_cF⟩)]) (fun v => o6 = v) ?_ ?_
        · refine aBk ?_; refine aSR ?_; intro _; obtain ⟨y102, w8, q9, h⟩ := ix_ok h; refine Exists.intro (cF y102) (And.intro (map_at' w8) ?_); intro _; refine pr ?_; refine dr ?_; refine aSR ?_; intro _; obtain ⟨y103, w10, q11, h⟩ := ix_ok h; refine Exists.intro (cI y103) (And.intro (map_at' w10) ?_); intro _; refine pr ?_; refine dr ?_; refine aBk ?_; refine awp_loop (α := Nat × Int × (List (List Fact))) (fun x => mkS 44 [(0, .sl 1 (a0.map cI)), (6, .own 36 0 0 x.2.2.length), (8, .ptr 8 0 0 0), (11, .sl 2 (a1.When.map cF)), (12, .c (.int .i64 ((a1.When.map cF).length : Int))), (13, .c (.int .i64 x3.2.1)), (21, .c (.int .i64 y103)), (22, .c (.int .i64 x.2.1))] [(8, ⟨68, 2, true, [[.c (.int .i64 y102.1), .c (.int .i64 y102.2)]]⟩), (36, ⟨23, 1, false, x.2.2.map cL_cF⟩)]) (fun x => M_g_silent_L1 y102 y103 x.1 x.2.1 x.2.2 = some o6) (fun x => x.1) ((y103).toNat + 1, 0, x3.2.2) h ?_ ?_
          · exact ca_0
          · intro x12 h; intro _; obtain ⟨k108, m13, h⟩ := succ_of (f := fun n => M_g_silent_L1 y102 y103 n x12.2.1 x12.2.2) rfl h; replace h : M_g_silent_L1 y102 y103 (k108 + 1) x12.2.1 x12.2.2 = some o6 := h; rw [M_g_silent_L1] at h; refine aSR ?_; intro _; refine dr ?_; refine aSq ?_; refine aCd ?_; intro _; refine spl h (fun c14 h => ?_) (fun c14 h => ?_)
            · refine aSk ?_; refine aSq ?_; refine aBk ?_; refine aSR ?_; intro _; refine dr ?_; refine aSR ?_; intro _; refine dr ?_; refine aCd ?_; intro _; refine spl h (fun c15 h => ?_) (fun c15 h => ?_)
              · refine aRg ?_; intro _; obtain ⟨q16, h⟩ := grd_ok h; refine pl ?_; refine pl ?_; refine And.intro (by first | with_reducible assumption | (show (x12.2.2.length + 1) * 24 ≤ 140737488355328; with_reducible assumption) | omega | (simp; omega)) ?_; refine pe ?_; refine dr ?_; refine aRg ?_; intro _; refine dr ?_; refine ⟨(k108, (IntKind.i64.wrap (x12.2.1 + 1)), (x12.2.2 ++ [[(y102.1, x12.2.1)]])), h, ltS m13, ?_⟩; exact ca_0
              · refine aSk ?_; refine aRg ?_; intro _; refine dr ?_; refine ⟨(k108, (IntKind.i64.wrap (x12.2.1 + 1)), x12.2.2), h, ltS m13, ?_⟩; exact ca_0
            · refine aEx ?_; refine ⟨x12.2.2, (Option.some.inj h).symm, ?_⟩; exact ca_0
        · rintro v100 ho; have ho := ho.symm; subst ho; intro _; replace h := hK7; refine aRg ?_; intro _; refine dr ?_; refine ⟨(k92, (IntKind.i64.wrap (x3.2.1 + 1)), v100), h, ltS m4, ?_⟩; exact ca_0
      · refine aEx ?_; refine ⟨x3.2.2, (Option.some.inj h).symm, ?_⟩; exact ca_0
  · rintro v54 ho; have ho := ho.symm; subst ho; intro _; replace h := hK2; refine aSq ?_; refine aSR ?_; intro _; refine dr ?_; refine aCd ?_; intro _; refine spl h (fun c17 h => ?_) (fun c17 h => ?_)
    · refine aSR ?_; intro _; refine dr ?_; refine aRt ?_; intro _; obtain ⟨rfl, rfl⟩ := inj2 h; exact ca_0
    · refine aSk ?_; refine aSR ?_; intro _; refine dr ?_; refine aRt ?_; obtain ⟨q18, h⟩ := grd_ok h; intro _; obtain ⟨rfl, rfl⟩ := inj2 h; exact ca_0
def M_p_valid_L1 (a0 : List Fact) : Nat → Int → Option (Bool)
  | 0, _ => none
  | k6 + 1, v5 =>
    sel (decide (v5 < ((a0.map cF).length : Int)))
     (ix a0 v5 (fun y7 =>
       sel (decide (y7.1 < 0))
        (some false)
        (sel (decide (y7.2 < 0))
          (some false)
          (sel (decide (v5 > 0))
            (ix a0 (IntKind.i64.wrap (v5 - 1)) (fun y8 =>
              sel (decide (y8.1 ≥ y7.1))
               (some false)
               (M_p_valid_L1 a0 k6 (IntKind.i64.wrap (v5 + 1)))))
            (M_p_valid_L1 a0 k6 (IntKind.i64.wrap (v5 + 1)))))))
     (some true)
def M_p_valid (a0 : List Fact) : Option (Bool) :=
  M_p_valid_L1 a0 ((((a0.map cF).length : Int)).toNat + 1) 0
theorem A_p_valid (a0 : List Fact) {r1 : Bool} (h : M_p_valid a0 = some r1) : ACall cx 48 [.sl 2 (a0.map cF)] (.c (.bool r1)) := by
  refine aOf Tryz.func48 rfl (by decide) rfl (Nat.le_of_ble_eq_true rfl) ?_; intro _; unfold M_p_valid at h; refine aSR ?_; intro _; refine dr ?_; refine aSq ?_; refine aSR ?_; intro _; refine dr ?_; refine aBk ?_; refine awp_loop (α := Nat × Int) (fun x => mkS 36 [(0, .sl 2 (a0.map cF)), (5, .sl 2 (a0.map cF)), (6, .c (.int .i64 ((a0.map cF).length : Int))), (7, .c (.int .i64 x.2))] []) (fun x => M_p_valid_L1 a0 x.1 x.2 = some r1) (fun x => x.1) ((((a0.map cF).length : Int)).toNat + 1, 0) h ?_ ?_
  · exact ca_0
  · intro x1 h; intro _; obtain ⟨k6, m2, h⟩ := succ_of (f := fun n => M_p_valid_L1 a0 n x1.2) rfl h; replace h : M_p_valid_L1 a0 (k6 + 1) x1.2 = some r1 := h; rw [M_p_valid_L1] at h; refine aSR ?_; intro _; refine dr ?_; refine aSq ?_; refine aCd ?_; intro _; refine spl h (fun c3 h => ?_) (fun c3 h => ?_)
    · refine aSk ?_; refine aSq ?_; refine aBk ?_; refine aSR ?_; intro _; obtain ⟨y7, w4, q5, h⟩ := ix_ok h; refine Exists.intro (cF y7) (And.intro (map_at' w4) ?_); intro _; refine pr ?_; refine dr ?_; refine aSR ?_; intro _; refine spf h (fun c6 h => ?_) (fun c6 h => ?_)
      · intro _; refine spf h (fun c7 h => ?_) (fun c7 h => ?_)
        · intro _; refine spl h (fun c8 h => ?_) (fun c8 h => ?_)
          · intro _; obtain ⟨y8, w9, q10, h⟩ := ix_ok h; refine Exists.intro (cF y8) (And.intro (map_at' w9) ?_); intro _; refine pr ?_; refine dr ?_; refine aCd ?_; intro _; refine spl h (fun c11 h => ?_) (fun c11 h => ?_)
            · refine aSR ?_; intro _; refine dr ?_; refine aRt ?_; intro _; obtain rfl := inj1 h; exact ca_0
            · refine aSk ?_; refine aRg ?_; intro _; refine dr ?_; refine ⟨(k6, (IntKind.i64.wrap (x1.2 + 1))), h, ltS m2, ?_⟩; exact ca_0
          · intro _; refine dr ?_; refine aCd ?_; intro _; refine litF ?_; refine aSk ?_; refine aRg ?_; intro _; refine dr ?_; refine ⟨(k6, (IntKind.i64.wrap (x1.2 + 1))), h, ltS m2, ?_⟩; exact ca_0
        · intro _; refine dr ?_; refine aCd ?_; intro _; refine litT ?_; refine aSR ?_; intro _; refine dr ?_; refine aRt ?_; intro _; obtain rfl := inj1 h; exact ca_0
      · intro _; refine dr ?_; refine aCd ?_; intro _; refine litT ?_; refine aSR ?_; intro _; refine dr ?_; refine aRt ?_; intro _; obtain rfl := inj1 h; exact ca_0
    · refine aEx ?_; refine aSR ?_; intro _; refine dr ?_; refine aRt ?_; intro _; obtain rfl := inj1 h; exact ca_0
def M_p_Make_L1 (a0 : List Fact) : Nat → Int → Option (Unit ⊕ ((List Fact) × Er))
  | 0, _ => none
  | k14 + 1, v13 =>
    sel (decide (v13 < ((a0.map cF).length : Int)))
     (ix a0 v13 (fun y15 =>
       sel (decide (y15.1 < 0))
        (some (.inr ([], (Er.no 1))))
        (sel (decide (y15.2 < 0))
          (some (.inr ([], (Er.no 1))))
          (M_p_Make_L1 a0 k14 (IntKind.i64.wrap (v13 + 1))))))
     (some (.inl ()))
def M_p_Make (a0 : List Fact) : Option ((List Fact) × Er) :=
  ob1 (M_p_Make_L1 a0 ((((a0.map cF).length : Int)).toNat + 1) 0 : Option (Unit ⊕ ((List Fact) × Er)))
   (osum
   (fun _ => ob1 (M_cloneF a0) (fun z16 =>
      ob1 (M_sortF z16) (fun c17 =>
       grd (c17.length = z16.length) (ob1 (M_compactF c17) (fun z18 =>
        grd (z18.length ≤ 140737488355328) (ob1 (M_p_valid z18) (fun z19 =>
         sel (!z19)
          (some ([], (Er.no 2)))
          (some (z18, Er.nil)))))))))
   (fun (r7, r8) => some (r7, r8)))
theorem A_p_Make (a0 : List Fact) {r1 : List Fact} {r2 : Er} (h : M_p_Make a0 = some (r1, r2)) : ACall cx 123 [.sl 2 (a0.map cF)] (.tup [.sl 2 (r1.map cF), eA r2]) := by
  refine aOf Tryz.func123 rfl (by decide) rfl (Nat.le_of_ble_eq_true rfl) ?_; intro _; unfold M_p_Make at h; refine aSR ?_; intro _; refine dr ?_; obtain ⟨o1, h, hK2⟩ := ob1_ok h; refine awp_cut (α := Unit) (fun _ => mkS 34 [(0, .sl 2 (a0.map cF))] []) (fun v => o1 = (.inl v)) ?_ ?_
  · refine aSR ?_; intro _; refine dr ?_; refine aBk ?_; refine awp_loop (α := Nat × Int) (fun x => mkS 34 [(0, .sl 2 (a0.map cF)), (7, .sl 2 (a0.map cF)), (8, .c (.int .i64 ((a0.map cF).length : Int))), (9, .c (.int .i64 x.2))] []) (fun x => M_p_Make_L1 a0 x.1 x.2 = some o1) (fun x => x.1) ((((a0.map cF).length : Int)).toNat + 1, 0) h ?_ ?_
    · exact ca_0
    · intro x3 h; intro _; obtain ⟨k14, m4, h⟩ := succ_of (f := fun n => M_p_Make_L1 a0 n x3.2) rfl h; replace h : M_p_Make_L1 a0 (k14 + 1) x3.2 = some o1 := h; rw [M_p_Make_L1] at h; refine aSR ?_; intro _; refine dr ?_; refine aSq ?_; refine aCd ?_; intro _; refine spl h (fun c5 h => ?_) (fun c5 h => ?_)
      · refine aSk ?_; refine aSq ?_; refine aBk ?_; refine aSR ?_; intro _; obtain ⟨y15, w6, q7, h⟩ := ix_ok h; refine Exists.intro (cF y15) (And.intro (map_at' w6) ?_); intro _; refine pr ?_; refine dr ?_; refine aSR ?_; intro _; refine spf h (fun c8 h => ?_) (fun c8 h => ?_)
        · intro _; refine dr ?_; refine aCd ?_; intro _; refine spl h (fun c9 h => ?_) (fun c9 h => ?_)
          · refine aSR ?_; intro _; refine dr ?_; refine aRt ?_; have j10 := Option.some.inj h; subst j10; replace h := (osum_r hK2); intro _; obtain ⟨rfl, rfl⟩ := inj2 h; exact ca_0
          · refine aSk ?_; refine aRg ?_; intro _; refine dr ?_; refine ⟨(k14, (IntKind.i64.wrap (x3.2 + 1))), h, ltS m4, ?_⟩; exact ca_0
        · intro _; refine dr ?_; refine aCd ?_; intro _; refine litT ?_; refine aSR ?_; intro _; refine dr ?_; refine aRt ?_; have j11 := Option.some.inj h; subst j11; replace h := (osum_r hK2); intro _; obtain ⟨rfl, rfl⟩ := inj2 h; exact ca_0
      · refine aEx ?_; refine ⟨(), (Option.some.inj h).symm, ?_⟩; exact ca_0
  · rintro _ ho; have ho := ho.symm; subst ho; intro _; replace h := (osum_l hK2); refine aSR ?_; intro _; obtain ⟨z16, u12, h⟩ := ob1_ok h; refine clg [(0, 24)] [] [] [(24, ⟨2, some ⟨68, 2, false, z16.map cF⟩⟩)] (.own 24 2 0 z16.length) rfl rfl (A_cloneF a0 u12) ?_; intro _; refine dr ?_; refine aSR ?_; intro _; obtain ⟨c17, u13, h⟩ := ob1_ok h; refine clg [(900, 24)] [] [] [(24, ⟨2, some ⟨68, 2, false, c17.map cF⟩⟩)] (.tup []) rfl rfl (A_sortF z16 u13) ?_; obtain ⟨q14, h⟩ := grd_ok h; intro _; refine dr ?_; refine aSR ?_; intro _; obtain ⟨z18, u15, h⟩ := ob1_ok h; refine clg [(0, 24), (0, 24)] [] [(24, ⟨3, none⟩)] [(24, ⟨4, some ⟨68, 2, false, z18.map cF⟩⟩)] (.own 24 4 0 z18.length) rfl rfl (A_compactF c17 u15) ?_; intro _; refine dr ?_; refine aSq ?_; refine aSR ?_; intro _; obtain ⟨q16, h⟩ := grd_ok h; obtain ⟨z19, u17, h⟩ := ob1_ok h; refine clb [24] rfl rfl (A_p_valid z18 u17) ?_; intro _; refine dr ?_; refine aCd ?_; intro _; refine spl h (fun c18 h => ?_) (fun c18 h => ?_)
    · refine aSR ?_; intro _; refine dr ?_; refine aRt ?_; intro _; obtain ⟨rfl, rfl⟩ := inj2 h; exact ca_0
    · refine aSk ?_; refine aSR ?_; intro _; refine dr ?_; refine aRt ?_; intro _; obtain ⟨rfl, rfl⟩ := inj2 h; exact ca_0
def M_p_Join (a0 : List Fact) (a1 : List Fact) : Option ((List Fact) × Bool) :=
  ob1 (M_p_valid a0) (fun z1 =>
   sel (!z1)
    (some ([], false))
    (ob1 (M_p_valid a1) (fun z2 =>
      sel (!z2)
       (some ([], false))
       (ob1 (M_cloneF a0) (fun z3 =>
         grd ((z3 ++ a1).length ≤ 140737488355328) (ob2 (M_p_Make (z3 ++ a1)) (fun z4 z5 =>
          grd ((z3.length + a1.length) * 16 ≤ 140737488355328) (erM z5
           (some (z4, true))
           (fun _ => some (z4, false))))))))))
theorem A_p_Join (a0 : List Fact) (a1 : List Fact) {r1 : List Fact} {r2 : Bool} (h : M_p_Join a0 a1 = some (r1, r2)) : ACall cx 107 [.sl 2 (a0.map cF), .sl 2 (a1.map cF)] (.tup [.sl 2 (r1.map cF), .c (.bool r2)]) := by
  refine aOf Tryz.func107 rfl (by decide) rfl (Nat.le_of_ble_eq_true rfl) ?_; intro _; unfold M_p_Join at h; refine aSR ?_; intro _; refine dr ?_; refine aSq ?_; refine aSR ?_; intro _; obtain ⟨z1, u1, h⟩ := ob1_ok h; refine cl rfl (A_p_valid a0 u1) ?_; intro _; refine spf h (fun c2 h => ?_) (fun c2 h => ?_)
  · intro _; obtain ⟨z2, u3, h⟩ := ob1_ok h; refine cl rfl (A_p_valid a1 u3) ?_; intro _; refine dr ?_; refine aCd ?_; intro _; refine spl h (fun c4 h => ?_) (fun c4 h => ?_)
    · refine aSR ?_; intro _; refine dr ?_; refine aRt ?_; intro _; obtain ⟨rfl, rfl⟩ := inj2 h; exact ca_0
    · refine aSk ?_; refine aSR ?_; intro _; obtain ⟨z3, u5, h⟩ := ob1_ok h; refine clg [(0, 18)] [] [] [(18, ⟨2, some ⟨68, 2, false, z3.map cF⟩⟩)] (.own 18 2 0 z3.length) rfl rfl (A_cloneF a0 u5) ?_; intro _; obtain ⟨q6, h⟩ := grd_ok h; obtain ⟨z4, z5, u7, h⟩ := ob2_ok h; refine clf [(18, ⟨4, none⟩)] rfl rfl (A_p_Make (z3 ++ a1) u7) ?_; intro _; obtain ⟨q8, h⟩ := grd_ok h; refine pl ?_; refine And.intro (by first | with_reducible assumption | (show (z3.length + a1.length) * 16 ≤ 140737488355328; with_reducible assumption) | omega | (simp; omega)) ?_; refine pe ?_; refine dr ?_; refine aSq ?_; rcases z5 with _ | e6
      · replace h := erM_nil h; refine aRg ?_; intro _; refine dr ?_; refine aRt ?_; intro _; obtain ⟨rfl, rfl⟩ := inj2 h; exact ca_0
      · replace h := erM_no h; refine aRg ?_; intro _; refine dr ?_; refine aRt ?_; intro _; obtain ⟨rfl, rfl⟩ := inj2 h; exact ca_0
  · intro _; refine dr ?_; refine aCd ?_; intro _; refine litT ?_; refine aSR ?_; intro _; refine dr ?_; refine aRt ?_; intro _; obtain ⟨rfl, rfl⟩ := inj2 h; exact ca_0
def M_s_BinarySearchFunc_Fact_L1 (a0 : List (List Fact)) (a1 : List Fact) (a2 : (List Fact) → (List Fact) → Option Int) : Nat → Int → Int → Option (Int)
  | 0, _, _ => none
  | k22 + 1, v20, v21 =>
    sel (decide (v20 < v21))
     (ix a0 (IntKind.i64.wrap (Int.fdiv (IntKind.u64.wrap (IntKind.i64.wrap (v20 + v21))) 2)) (fun y23 =>
       ob1 (a2 y23 a1) (fun z24 =>
        sel (decide (z24 < 0))
         (M_s_BinarySearchFunc_Fact_L1 a0 a1 a2 k22 (IntKind.i64.wrap ((IntKind.i64.wrap (Int.fdiv (IntKind.u64.wrap (IntKind.i64.wrap (v20 + v21))) 2)) + 1)) v21)
         (M_s_BinarySearchFunc_Fact_L1 a0 a1 a2 k22 v20 (IntKind.i64.wrap (Int.fdiv (IntKind.u64.wrap (IntKind.i64.wrap (v20 + v21))) 2))))))
     (some v20)
def M_s_BinarySearchFunc_Fact (g : Nat) (a0 : List (List Fact)) (a1 : List Fact) (a2 : (List Fact) → (List Fact) → Option Int) : Option (Int × Bool) :=
  ob1 (M_s_BinarySearchFunc_Fact_L1 a0 a1 a2 g 0 ((a0.map cL_cF).length : Int) : Option (Int))
   (fun v12 => sel (decide (v12 < ((a0.map cL_cF).length : Int)))
      (ix a0 v12 (fun y25 =>
        ob1 (a2 y25 a1) (fun z26 =>
         some (v12, (z26 == 0)))))
      (some (v12, false)))
theorem A_s_BinarySearchFunc_Fact (g : Nat) (a0 : List (List Fact)) (a1 : List Fact) (a2 : (List Fact) → (List Fact) → Option Int) (Fa2 : AV) (hFa2 : Fr Fa2) (ea2 : ∃ f fs cap, Fa2 = .clo (.func f) fs cap) (ha2 : ∀ (x0 : List Fact) (x1 : List Fact) (y0 : Int), a2 x0 x1 = some y0 → CCl cx Fa2 [.sl 2 (x0.map cF), .sl 2 (x1.map cF)] (.c (.int .i64 y0))) {r1 : Int} {r2 : Bool} (h : M_s_BinarySearchFunc_Fact g a0 a1 a2 = some (r1, r2)) : ACall cx 108 [.sl 1 (a0.map cL_cF), .sl 2 (a1.map cF), Fa2] (.tup [.c (.int .i64 r1), .c (.bool r2)]) := by
  obtain ⟨fa2, sa2, qa2, rfl⟩ := ea2; refine aOf Tryz.func108 rfl (by decide) rfl (Nat.le_of_ble_eq_true rfl) ?_; intro _; unfold M_s_BinarySearchFunc_Fact at h; refine aSR ?_; intro _; refine dr ?_; refine aSR ?_; intro _; refine dr ?_; refine aSR ?_; intro _; refine dr ?_; obtain ⟨o1, h, hK2⟩ := ob1_ok h; refine awp_cut (α := Int) (fun v12 => mkS 49 [(0, .sl 1 (a0.map cL_cF)), (1, .sl 2 (a1.map cF)), (2, .clo (.func fa2) sa2 qa2), (8, .c (.int .i64 ((a0.map cL_cF).length : Int))), (9, .c (.int .i64 v12))] []) (fun v => o1 = v) ?_ ?_
  · refine aBk ?_; refine awp_loop (α := Nat × Int × Int) (fun x => mkS 49 [(0, .sl 1 (a0.map cL_cF)), (1, .sl 2 (a1.map cF)), (2, .clo (.func fa2) sa2 qa2), (8, .c (.int .i64 ((a0.map cL_cF).length : Int))), (9, .c (.int .i64 x.2.1)), (10, .c (.int .i64 x.2.2))] []) (fun x => M_s_BinarySearchFunc_Fact_L1 a0 a1 a2 x.1 x.2.1 x.2.2 = some o1) (fun x => x.1) (g, 0, ((a0.map cL_cF).length : Int)) h ?_ ?_
    · exact ca_0
    · intro x3 h; intro _; obtain ⟨k22, m4, h⟩ := succ_of (f := fun n => M_s_BinarySearchFunc_Fact_L1 a0 a1 a2 n x3.2.1 x3.2.2) rfl h; replace h : M_s_BinarySearchFunc_Fact_L1 a0 a1 a2 (k22 + 1) x3.2.1 x3.2.2 = some o1 := h; rw [M_s_BinarySearchFunc_Fact_L1] at h; refine aSq ?_; refine aSR ?_; intro _; refine dr ?_; refine aCd ?_; intro _; refine spl h (fun c5 h => ?_) (fun c5 h => ?_)
      · refine aSk ?_; refine aBk ?_; refine aSR ?_; intro _; refine dr ?_; refine aSR ?_; intro _; obtain ⟨y23, w6, q7, h⟩ := ix_ok h; refine Exists.intro (cL_cF y23) (And.intro (map_at' w6) ?_); intro _; obtain ⟨z24, u8, h⟩ := ob1_ok h; refine clc rfl (ha2 _ _ _ u8) hFa2 ?_; intro _; refine pr ?_; refine dr ?_; refine aCd ?_; intro _; refine spl h (fun c9 h => ?_) (fun c9 h => ?_)
        · refine aRg ?_; intro _; refine dr ?_; refine ⟨(k22, (IntKind.i64.wrap ((IntKind.i64.wrap (Int.fdiv (IntKind.u64.wrap (IntKind.i64.wrap (x3.2.1 + x3.2.2))) 2)) + 1)), x3.2.2), h, ltS m4, ?_⟩; exact ca_0
        · refine aRg ?_; intro _; refine dr ?_; refine ⟨(k22, x3.2.1, (IntKind.i64.wrap (Int.fdiv (IntKind.u64.wrap (IntKind.i64.wrap (x3.2.1 + x3.2.2))) 2))), h, ltS m4, ?_⟩; exact ca_0
      · refine aEx ?_; refine ⟨x3.2.1, (Option.some.inj h).symm, ?_⟩; exact ca_0
  · rintro v12 ho; have ho := ho.symm; subst ho; intro _; replace h := hK2; refine aSR ?_; intro _; refine spl h (fun c10 h => ?_) (fun c10 h => ?_)
    · intro _; obtain ⟨y25, w11, q12, h⟩ := ix_ok h; refine Exists.intro (cL_cF y25) (And.intro (map_at' w11) ?_); intro _; obtain ⟨z26, u13, h⟩ := ob1_ok h; refine clc rfl (ha2 _ _ _ u13) hFa2 ?_; intro _; refine pr ?_; refine dr ?_; refine aRt ?_; intro _; obtain ⟨rfl, rfl⟩ := inj2 h; exact ca_0
    · intro _; refine dr ?_; refine aRt ?_; intro _; obtain ⟨rfl, rfl⟩ := inj2 h; exact ca_0
def M_s_CompareFunc_Fact_L1 (a0 : List Fact) (a1 : List Fact) (a2 : Fact → Fact → Option Int) : Nat → Int → Option (Unit ⊕ Int)
  | 0, _ => none
  | k23 + 1, v22 =>
    sel (decide (v22 < ((a0.map cF).length : Int)))
     (ix a0 v22 (fun y24 =>
       sel (decide (v22 ≥ ((a1.map cF).length : Int)))
        (some (.inr 1))
        (ix a1 v22 (fun y25 =>
          ob1 (a2 y24 y25) (fun z26 =>
           sel (z26 != 0)
            (some (.inr z26))
            (M_s_CompareFunc_Fact_L1 a0 a1 a2 k23 (IntKind.i64.wrap (v22 + 1))))))))
     (some (.inl ()))
def M_s_CompareFunc_Fact (a0 : List Fact) (a1 : List Fact) (a2 : Fact → Fact → Option Int) : Option (Int) :=
  ob1 (M_s_CompareFunc_Fact_L1 a0 a1 a2 ((((a0.map cF).length : Int)).toNat + 1) 0 : Option (Unit ⊕ Int))
   (osum
   (fun _ => sel (decide (((a0.map cF).length : Int) < ((a1.map cF).length : Int)))
      (some (-1))
      (some 0))
   (fun r13 => some r13))
theorem A_s_CompareFunc_Fact (a0 : List Fact) (a1 : List Fact) (a2 : Fact → Fact → Option Int) (Fa2 : AV) (hFa2 : Fr Fa2) (ea2 : ∃ f fs cap, Fa2 = .clo (.func f) fs cap) (ha2 : ∀ (x0 : Fact) (x1 : Fact) (y0 : Int), a2 x0 x1 = some y0 → CCl cx Fa2 [.agg [.c (.int .i64 x0.1), .c (.int .i64 x0.2)], .agg [.c (.int .i64 x1.1), .c (.int .i64 x1.2)]] (.c (.int .i64 y0))) {r1 : Int} (h : M_s_CompareFunc_Fact a0 a1 a2 = some r1) : ACall cx 97 [.sl 2 (a0.map cF), .sl 2 (a1.map cF), Fa2] (.c (.int .i64 r1)) := by
  obtain ⟨fa2, sa2, qa2, rfl⟩ := ea2; refine aOf Tryz.func97 rfl (by decide) rfl (Nat.le_of_ble_eq_true rfl) ?_; intro _; unfold M_s_CompareFunc_Fact at h; refine aSR ?_; intro _; refine dr ?_; obtain ⟨o1, h, hK2⟩ := ob1_ok h; refine awp_cut (α := Unit) (fun _ => mkS 39 [(0, .sl 2 (a0.map cF)), (1, .sl 2 (a1.map cF))] []) (fun v => o1 = (.inl v)) ?_ ?_
  · refine aSR ?_; intro _; refine dr ?_; refine aBk ?_; refine awp_loop (α := Nat × Int) (fun x => mkS 39 [(0, .sl 2 (a0.map cF)), (1, .sl 2 (a1.map cF)), (2, .clo (.func fa2) sa2 qa2), (11, .sl 2 (a0.map cF)), (12, .c (.int .i64 ((a0.map cF).length : Int))), (13, .c (.int .i64 x.2))] []) (fun x => M_s_CompareFunc_Fact_L1 a0 a1 a2 x.1 x.2 = some o1) (fun x => x.1) ((((a0.map cF).length : Int)).toNat + 1, 0) h ?_ ?_
    · exact ca_0
    · intro x3 h; intro _; obtain ⟨k23, m4, h⟩ := succ_of (f := fun n => M_s_CompareFunc_Fact_L1 a0 a1 a2 n x3.2) rfl h; replace h : M_s_CompareFunc_Fact_L1 a0 a1 a2 (k23 + 1) x3.2 = some o1 := h; rw [M_s_CompareFunc_Fact_L1] at h; refine aSR ?_; intro _; refine dr ?_; refine aSq ?_; refine aCd ?_; intro _; refine spl h (fun c5 h => ?_) (fun c5 h => ?_)
      · refine aSk ?_; refine aSq ?_; refine aBk ?_; refine aSR ?_; intro _; obtain ⟨y24, w6, q7, h⟩ := ix_ok h; refine Exists.intro (cF y24) (And.intro (map_at' w6) ?_); intro _; refine pr ?_; refine dr ?_; refine aSq ?_; refine aSR ?_; intro _; refine dr ?_; refine aCd ?_; intro _; refine spl h (fun c8 h => ?_) (fun c8 h => ?_)
        · refine aSR ?_; intro _; refine dr ?_; refine aRt ?_; have j9 := Option.some.inj h; subst j9; replace h := (osum_r hK2); intro _; obtain rfl := inj1 h; exact ca_0
        · refine aSk ?_; refine aSR ?_; intro _; obtain ⟨y25, w10, q11, h⟩ := ix_ok h; refine Exists.intro (cF y25) (And.intro (map_at' w10) ?_); intro _; refine pr ?_; refine dr ?_; refine aSR ?_; intro _; obtain ⟨z26, u12, h⟩ := ob1_ok h; refine clc rfl (ha2 _ _ _ u12) hFa2 ?_; intro _; refine dr ?_; refine aSR ?_; intro _; refine dr ?_; refine aCd ?_; intro _; refine spl h (fun c13 h => ?_) (fun c13 h => ?_)
          · refine aSR ?_; intro _; refine dr ?_; refine aRt ?_; have j14 := Option.some.inj h; subst j14; replace h := (osum_r hK2); intro _; obtain rfl := inj1 h; exact ca_0
          · refine aSk ?_; refine aRg ?_; intro _; refine dr ?_; refine ⟨(k23, (IntKind.i64.wrap (x3.2 + 1))), h, ltS m4, ?_⟩; exact ca_0
      · refine aEx ?_; refine ⟨(), (Option.some.inj h).symm, ?_⟩; exact ca_0
  · rintro _ ho; have ho := ho.symm; subst ho; intro _; replace h := (osum_l hK2); refine aSq ?_; refine aSR ?_; intro _; refine dr ?_; refine aCd ?_; intro _; refine spl h (fun c15 h => ?_) (fun c15 h => ?_)
    · refine aSR ?_; intro _; refine dr ?_; refine aRt ?_; intro _; obtain rfl := inj1 h; exact ca_0
    · refine aSk ?_; refine aSR ?_; intro _; refine dr ?_; refine aRt ?_; intro _; obtain rfl := inj1 h; exact ca_0
def M_cmp_isNaN_int (a0 : Int) : Option (Bool) :=
  some (a0 != a0)
theorem A_cmp_isNaN_int (a0 : Int) {r1 : Bool} (h : M_cmp_isNaN_int a0 = some r1) : ACall cx 120 [.c (.int .i64 a0)] (.c (.bool r1)) := by
  refine aOf Tryz.func120 rfl (by decide) rfl (Nat.le_of_ble_eq_true rfl) ?_; intro _; unfold M_cmp_isNaN_int at h; refine aSR ?_; intro _; refine dr ?_; refine aSR ?_; intro _; refine dr ?_; refine aRt ?_; intro _; obtain rfl := inj1 h; exact ca_0
def M_cmp_Compare_int (a0 : Int) (a1 : Int) : Option (Int) :=
  ob1 (M_cmp_isNaN_int a0) (fun z1 =>
   ob1 (M_cmp_isNaN_int a1) (fun z2 =>
    sel z1
     (sel z2
       (some 0)
       (some (-1)))
     (sel z2
       (some 1)
       (sel (decide (a0 < a1))
         (some (-1))
         (sel (decide (a0 > a1))
           (some 1)
           (some 0))))))
theorem A_cmp_Compare_int (a0 : Int) (a1 : Int) {r1 : Int} (h : M_cmp_Compare_int a0 a1 = some r1) : ACall cx 100 [.c (.int .i64 a0), .c (.int .i64 a1)] (.c (.int .i64 r1)) := by
  refine aOf Tryz.func100 rfl (by decide) rfl (Nat.le_of_ble_eq_true rfl) ?_; intro _; unfold M_cmp_Compare_int at h; refine aSR ?_; intro _; refine dr ?_; refine aSR ?_; intro _; obtain ⟨z1, u1, h⟩ := ob1_ok h; refine cl rfl (A_cmp_isNaN_int a0 u1) ?_; intro _; refine dr ?_; refine aSR ?_; intro _; obtain ⟨z2, u2, h⟩ := ob1_ok h; refine cl rfl (A_cmp_isNaN_int a1 u2) ?_; intro _; refine dr ?_; refine aSq ?_; refine aSR ?_; intro _; refine dr ?_; refine aCd ?_; intro _; refine spl h (fun c3 h => ?_) (fun c3 h => ?_)
  · refine aSq ?_; refine aSR ?_; intro _; refine dr ?_; refine aCd ?_; intro _; refine spl h (fun c4 h => ?_) (fun c4 h => ?_)
    · refine aSR ?_; intro _; refine dr ?_; refine aRt ?_; intro _; obtain rfl := inj1 h; exact ca_0
    · refine aSk ?_; refine aSR ?_; intro _; refine dr ?_; refine aRt ?_; intro _; obtain rfl := inj1 h; exact ca_0
  · refine aSk ?_; refine aSq ?_; refine aSR ?_; intro _; refine dr ?_; refine aCd ?_; intro _; refine spl h (fun c5 h => ?_) (fun c5 h => ?_)
    · refine aSR ?_; intro _; refine dr ?_; refine aRt ?_; intro _; obtain rfl := inj1 h; exact ca_0
    · refine aSk ?_; refine aSq ?_; refine aSR ?_; intro _; refine dr ?_; refine aCd ?_; intro _; refine spl h (fun c6 h => ?_) (fun c6 h => ?_)
      · refine aSR ?_; intro _; refine dr ?_; refine aRt ?_; intro _; obtain rfl := inj1 h; exact ca_0
      · refine aSk ?_; refine aSq ?_; refine aSR ?_; intro _; refine dr ?_; refine aCd ?_; intro _; refine spl h (fun c7 h => ?_) (fun c7 h => ?_)
        · refine aSR ?_; intro _; refine dr ?_; refine aRt ?_; intro _; obtain rfl := inj1 h; exact ca_0
        · refine aSk ?_; refine aSR ?_; intro _; refine dr ?_; refine aRt ?_; intro _; obtain rfl := inj1 h; exact ca_0
def M_cmp_Or_int_L1 (a0 : List Int) : Nat → Int → Option (Int)
  | 0, _ => none
  | k5 + 1, v4 =>
    sel (decide (v4 < ((a0.map cI).length : Int)))
     (ix a0 v4 (fun y6 =>
       sel (y6 != 0)
        (some y6)
        (M_cmp_Or_int_L1 a0 k5 (IntKind.i64.wrap (v4 + 1)))))
     (some 0)
def M_cmp_Or_int (a0 : List Int) : Option (Int) :=
  M_cmp_Or_int_L1 a0 ((((a0.map cI).length : Int)).toNat + 1) 0
theorem A_cmp_Or_int (a0 : List Int) {r1 : Int} (h : M_cmp_Or_int a0 = some r1) : ACall cx 99 [.sl 1 (a0.map cI)] (.c (.int .i64 r1)) := by
  refine aOf Tryz.func99 rfl (by decide) rfl (Nat.le_of_ble_eq_true rfl) ?_; intro _; unfold M_cmp_Or_int at h; refine aSR ?_; intro _; refine dr ?_; refine aSR ?_; intro _; refine dr ?_; refine aSq ?_; refine aSR ?_; intro _; refine dr ?_; refine aBk ?_; refine awp_loop (α := Nat × Int) (fun x => mkS 18 [(3, .c (.int .i64 0)), (6, .sl 1 (a0.map cI)), (7, .c (.int .i64 ((a0.map cI).length : Int))), (8, .c (.int .i64 x.2))] []) (fun x => M_cmp_Or_int_L1 a0 x.1 x.2 = some r1) (fun x => x.1) ((((a0.map cI).length : Int)).toNat + 1, 0) h ?_ ?_
  · exact ca_0
  · intro x1 h; intro _; obtain ⟨k5, m2, h⟩ := succ_of (f := fun n => M_cmp_Or_int_L1 a0 n x1.2) rfl h; replace h : M_cmp_Or_int_L1 a0 (k5 + 1) x1.2 = some r1 := h; rw [M_cmp_Or_int_L1] at h; refine aSR ?_; intro _; refine dr ?_; refine aSq ?_; refine aCd ?_; intro _; refine spl h (fun c3 h => ?_) (fun c3 h => ?_)
    · refine aSk ?_; refine aSq ?_; refine aBk ?_; refine aSR ?_; intro _; obtain ⟨y6, w4, q5, h⟩ := ix_ok h; refine Exists.intro (cI y6) (And.intro (map_at' w4) ?_); intro _; refine pr ?_; refine dr ?_; refine aSR ?_; intro _; refine dr ?_; refine aCd ?_; intro _; refine spl h (fun c6 h => ?_) (fun c6 h => ?_)
      · refine aSR ?_; intro _; refine dr ?_; refine aRt ?_; intro _; obtain rfl := inj1 h; exact ca_0
      · refine aSk ?_; refine aRg ?_; intro _; refine dr ?_; refine ⟨(k5, (IntKind.i64.wrap (x1.2 + 1))), h, ltS m2, ?_⟩; exact ca_0
    · refine aEx ?_; refine aSR ?_; intro _; refine dr ?_; refine aRt ?_; intro _; obtain rfl := inj1 h; exact ca_0
def M_g_compare_1 (a0 : Fact) (a1 : Fact) : Option (Int) :=
  ob1 (M_cmp_Compare_int a0.1 a1.1) (fun z1 =>
   ob1 (M_cmp_Compare_int a0.2 a1.2) (fun z2 =>
    ob1 (M_cmp_Or_int [z1, z2]) (fun z3 =>
     some z3)))
theorem A_g_compare_1 (a0 : Fact) (a1 : Fact) {r1 : Int} (h : M_g_compare_1 a0 a1 = some r1) : ACall cx 98 [.agg [.c (.int .i64 a0.1), .c (.int .i64 a0.2)], .agg [.c (.int .i64 a1.1), .c (.int .i64 a1.2)]] (.c (.int .i64 r1)) := by
  refine aOf Tryz.func98 rfl (by decide) rfl (Nat.le_of_ble_eq_true rfl) ?_; intro _; unfold M_g_compare_1 at h; refine aSR ?_; intro _; refine dr ?_; refine aSR ?_; intro _; obtain ⟨z1, u1, h⟩ := ob1_ok h; refine cl rfl (A_cmp_Compare_int a0.1 a1.1 u1) ?_; intro _; obtain ⟨z2, u2, h⟩ := ob1_ok h; refine cl rfl (A_cmp_Compare_int a0.2 a1.2 u2) ?_; intro _; obtain ⟨z3, u3, h⟩ := ob1_ok h; refine clb [15] rfl rfl (A_cmp_Or_int [z1, z2] u3) ?_; intro _; refine dr ?_; refine aRt ?_; intro _; obtain rfl := inj1 h; exact ca_0
def M_g_compare (a0 : List Fact) (a1 : List Fact) : Option (Int) :=
  ob1 (M_s_CompareFunc_Fact a0 a1 M_g_compare_1) (fun z1 =>
   some z1)
theorem A_g_compare (a0 : List Fact) (a1 : List Fact) {r1 : Int} (h : M_g_compare a0 a1 = some r1) : ACall cx 78 [.sl 2 (a0.map cF), .sl 2 (a1.map cF)] (.c (.int .i64 r1)) := by
  refine aOf Tryz.func78 rfl (by decide) rfl (Nat.le_of_ble_eq_true rfl) ?_; intro _; unfold M_g_compare at h; refine aSR ?_; intro _; refine dr ?_; refine aSR ?_; intro _; obtain ⟨z1, u1, h⟩ := ob1_ok h; refine clb [] rfl rfl (A_s_CompareFunc_Fact a0 a1 M_g_compare_1 (.clo (.func 98) [] []) (Fr.clo FrC_nil FrE.h) ⟨_, _, _, rfl⟩ (fun x0 x1 y0 hx => ⟨98, [], _, rfl, A_g_compare_1 x0 x1 hx⟩) u1) ?_; intro _; refine dr ?_; refine aRt ?_; intro _; obtain rfl := inj1 h; exact ca_0
def M_g_join_L1 (a1 : List (List Fact)) (g : Nat) (y153 : List Fact) : Nat → Int → (List (List Fact)) → (List (List Fact)) → Option (((List (List Fact)) × (List (List Fact))) ⊕ ((List (List Fact)) × Er))
  | 0, _, _, _ => none
  | k172 + 1, v169, v170, v171 =>
    sel (decide (v169 < ((a1.map cL_cF).length : Int)))
     (ix a1 v169 (fun y173 =>
       ob2 (M_p_Join y153 y173) (fun z174 z175 =>
        sel (!z175)
         (M_g_join_L1 a1 g y153 k172 (IntKind.i64.wrap (v169 + 1)) v170 v171)
         (grd (v170.length ≤ 140737488355328) (ob2 (M_s_BinarySearchFunc_Fact g v170 z174 M_g_compare) (fun z176 z177 =>
           sel z177
            (M_g_join_L1 a1 g y153 k172 (IntKind.i64.wrap (v169 + 1)) v170 v171)
            (sel (((v171.length : Nat) : Int) == 1024)
              (some (.inr ([], (Er.no 5))))
              (ob1 (M_insertL v170 z176 [z174]) (fun z178 =>
                grd ((v171.length + 1) * 24 ≤ 140737488355328) (M_g_join_L1 a1 g y153 k172 (IntKind.i64.wrap (v169 + 1)) z178 (v171 ++ [z174])))))))))))
     (some (.inl (v170, v171)))
def M_g_join_L2 (a0 : List (List Fact)) (a1 : List (List Fact)) (g : Nat) : Nat → Int → (List (List Fact)) → (List (List Fact)) → Option ((List (List Fact)) × Er)
  | 0, _, _, _ => none
  | k121 + 1, v118, v119, v120 =>
    sel (decide (v118 < ((a0.map cL_cF).length : Int)))
     (ob1 (ix a0 v118 (fun y153 =>
        M_g_join_L1 a1 g y153 ((((a1.map cL_cF).length : Int)).toNat + 1) 0 v119 v120) : Option (((List (List Fact)) × (List (List Fact))) ⊕ ((List (List Fact)) × Er)))
       (osum
       (fun (v148, v149) => M_g_join_L2 a0 a1 g k121 (IntKind.i64.wrap (v118 + 1)) v148 v149)
       (fun (r150, r151) => some (r150, r151))))
     (grd (v120.length ≤ 140737488355328) (some (v120, Er.nil)))
def M_g_join (g : Nat) (a0 : List (List Fact)) (a1 : List (List Fact)) : Option ((List (List Fact)) × Er) :=
  M_g_join_L2 a0 a1 g ((((a0.map cL_cF).length : Int)).toNat + 1) 0 [] []
theorem A_g_join (g : Nat) (a0 : List (List Fact)) (a1 : List (List Fact)) {r1 : List (List Fact)} {r2 : Er} (h : M_g_join g a0 a1 = some (r1, r2)) : ACall cx 94 [.sl 1 (a0.map cL_cF), .sl 1 (a1.map cL_cF)] (.tup [.sl 1 (r1.map cL_cF), eA r2]) := by
  refine aOf Tryz.func94 rfl (by decide) rfl (Nat.le_of_ble_eq_true rfl) ?_; intro _; unfold M_g_join at h; refine aSR ?_; intro _; refine dr ?_; refine aSR ?_; intro _; refine dr ?_; refine aSq ?_; refine aSR ?_; intro _; refine dr ?_; refine aBk ?_; refine awp_loop (α := Nat × Int × (List (List Fact)) × (List (List Fact))) (fun x => mkS 59 [(1, .sl 1 (a1.map cL_cF)), (6, .own 55 0 0 x.2.2.2.length), (7, .own 51 0 0 x.2.2.1.length), (16, .sl 1 (a0.map cL_cF)), (17, .c (.int .i64 ((a0.map cL_cF).length : Int))), (18, .c (.int .i64 x.2.1))] [(51, ⟨23, 1, false, x.2.2.1.map cL_cF⟩), (55, ⟨23, 1, false, x.2.2.2.map cL_cF⟩)]) (fun x => M_g_join_L2 a0 a1 g x.1 x.2.1 x.2.2.1 x.2.2.2 = some (r1, r2)) (fun x => x.1) ((((a0.map cL_cF).length : Int)).toNat + 1, 0, [], []) h ?_ ?_
  · exact ca_0
  · intro x1 h; intro _; obtain ⟨k121, m2, h⟩ := succ_of (f := fun n => M_g_join_L2 a0 a1 g n x1.2.1 x1.2.2.1 x1.2.2.2) rfl h; replace h : M_g_join_L2 a0 a1 g (k121 + 1) x1.2.1 x1.2.2.1 x1.2.2.2 = some (r1, r2) := h; rw [M_g_join_L2] at h; refine aSR ?_; intro _; refine dr ?_; refine aSq ?_; refine aCd ?_; intro _; refine spl h (fun c3 h => ?_) (fun c3 h => ?_)
    · refine aSk ?_; obtain ⟨o4, h, hK5⟩ := ob1_ok h; refine awp_cut (α := (List (List Fact)) × (List (List Fact))) (fun (v148, v149) => mkS 59 [(1, .sl 1 (a1.map cL_cF)), (6, .own 55 0 0 v149.length), (7, .own 51 0 0 v148.length), (16, .sl 1 (a0.map cL_cF)), (17, .c (.int .i64 ((a0.map cL_cF).length : Int))), (18, .c (.int .i64 x1.2.1))] [(51, ⟨23, 1, false, v148.map cL_cF⟩), (55, ⟨23, 1, false, v149.map cL_cF⟩)]) (fun v => o4 = (.inl v)) ?_ ?_
      · refine aBk ?_; refine aSR ?_; intro _; obtain ⟨y153, w6, q7, h⟩ := ix_ok h; refine Exists.intro (cL_cF y153) (And.intro (map_at' w6) ?_); intro _; refine pr ?_; refine dr ?_; refine aSR ?_; intro _; refine dr ?_; refine aBk ?_; refine awp_loop (α := Nat × Int × (List (List Fact)) × (List (List Fact))) (fun x => mkS 59 [(1, .sl 1 (a1.map cL_cF)), (6, .own 55 0 0 x.2.2.2.length), (7, .own 51 0 0 x.2.2.1.length), (9, .sl 2 (y153.map cF)), (16, .sl 1 (a0.map cL_cF)), (17, .c (.int .i64 ((a0.map cL_cF).length : Int))), (18, .c (.int .i64 x1.2.1)), (22, .sl 1 (a1.map cL_cF)), (23, .c (.int .i64 ((a1.map cL_cF).length : Int))), (24, .c (.int .i64 x.2.1))] [(51, ⟨23, 1, false, x.2.2.1.map cL_cF⟩), (55, ⟨23, 1, false, x.2.2.2.map cL_cF⟩)]) (fun x => M_g_join_L1 a1 g y153 x.1 x.2.1 x.2.2.1 x.2.2.2 = some o4) (fun x => x.1) ((((a1.map cL_cF).length : Int)).toNat + 1, 0, x1.2.2.1, x1.2.2.2) h ?_ ?_
        · exact ca_0
        · intro x8 h; intro _; obtain ⟨k172, m9, h⟩ := succ_of (f := fun n => M_g_join_L1 a1 g y153 n x8.2.1 x8.2.2.1 x8.2.2.2) rfl h; replace h : M_g_join_L1 a1 g y153 (k172 + 1) x8.2.1 x8.2.2.1 x8.2.2.2 = some o4 := h; rw [M_g_join_L1] at h; refine aSR ?_; intro _; refine dr ?_; refine aSq ?_; refine aCd ?_; intro _; refine spl h (fun c10 h => ?_) (fun c10 h => ?_)
          · refine aSk ?_; refine aSq ?_; refine aBk ?_; refine aSR ?_; intro _; obtain ⟨y173, w11, q12, h⟩ := ix_ok h; refine Exists.intro (cL_cF y173) (And.intro (map_at' w11) ?_); intro _; refine pr ?_; refine dr ?_; refine aSR ?_; intro _; obtain ⟨z174, z175, u13, h⟩ := ob2_ok h; refine cl rfl (A_p_Join y153 y173 u13) ?_; intro _; refine dr ?_; refine aSq ?_; refine aSR ?_; intro _; refine dr ?_; refine aCd ?_; intro _; refine spl h (fun c14 h => ?_) (fun c14 h => ?_)
            · refine aEx ?_; refine aRg ?_; intro _; refine dr ?_; refine ⟨(k172, (IntKind.i64.wrap (x8.2.1 + 1)), x8.2.2.1, x8.2.2.2), h, ltS m9, ?_⟩; exact ca_0
            · refine aSk ?_; refine aSR ?_; intro _; obtain ⟨q15, h⟩ := grd_ok h; obtain ⟨z176, z177, u16, h⟩ := ob2_ok h; refine clb [51] rfl rfl (A_s_BinarySearchFunc_Fact g x8.2.2.1 z174 M_g_compare (.clo (.func 78) [] []) (Fr.clo FrC_nil FrE.h) ⟨_, _, _, rfl⟩ (fun x0 x1 y0 hx => ⟨78, [], _, rfl, A_g_compare x0 x1 hx⟩) u16) ?_; intro _; refine dr ?_; refine aSq ?_; refine aSR ?_; intro _; refine dr ?_; refine aCd ?_; intro _; refine spl h (fun c17 h => ?_) (fun c17 h => ?_)
              · refine aEx ?_; refine aRg ?_; intro _; refine dr ?_; refine ⟨(k172, (IntKind.i64.wrap (x8.2.1 + 1)), x8.2.2.1, x8.2.2.2), h, ltS m9, ?_⟩; exact ca_0
              · refine aSk ?_; refine aSq ?_; refine aSR ?_; intro _; refine dr ?_; refine aCd ?_; intro _; refine spl h (fun c18 h => ?_) (fun c18 h => ?_)
                · refine aSR ?_; intro _; refine dr ?_; refine aRt ?_; have j19 := Option.some.inj h; subst j19; replace h := (osum_r hK5); intro _; obtain ⟨rfl, rfl⟩ := inj2 h; exact ca_0
                · refine aSk ?_; refine aSR ?_; intro _; obtain ⟨z178, u20, h⟩ := ob1_ok h; refine clg [(0, 51), (2, 50), (0, 51)] [] [(50, ⟨2, none⟩), (51, ⟨1, none⟩)] [(51, ⟨2, some ⟨23, 1, false, z178.map cL_cF⟩⟩)] (.own 51 2 0 z178.length) rfl rfl (A_insertL x8.2.2.1 z176 [z174] u20) ?_; intro _; refine dr ?_; refine aRg ?_; intro _; obtain ⟨q21, h⟩ := grd_ok h; refine pl ?_; refine pl ?_; refine And.intro (by first | with_reducible assumption | (show (x8.2.2.2.length + 1) * 24 ≤ 140737488355328; with_reducible assumption) | omega | (simp; omega)) ?_; refine pe ?_; refine dr ?_; refine aRg ?_; intro _; refine dr ?_; refine ⟨(k172, (IntKind.i64.wrap (x8.2.1 + 1)), z178, (x8.2.2.2 ++ [z174])), h, ltS m9, ?_⟩; exact ca_0
          · refine aEx ?_; refine ⟨(x8.2.2.1, x8.2.2.2), (Option.some.inj h).symm, ?_⟩; exact ca_0
      · rintro ⟨v148, v149⟩ ho; have ho := ho.symm; subst ho; intro _; replace h := (osum_l hK5); refine aRg ?_; intro _; refine dr ?_; refine ⟨(k121, (IntKind.i64.wrap (x1.2.1 + 1)), v148, v149), h, ltS m2, ?_⟩; exact ca_0
    · refine aEx ?_; refine aSR ?_; intro _; refine dr ?_; refine aRt ?_; obtain ⟨q22, h⟩ := grd_ok h; intro _; obtain ⟨rfl, rfl⟩ := inj2 h; exact ca_0
def M_g_cases_1 (b0 : List Fact) (a0 : List Fact) : Option (Bool) :=
  ob1 (M_g_compare a0 b0) (fun z1 =>
   some (z1 == 0))
theorem A_g_cases_1 (b0 : List Fact) (a0 : List Fact) {r1 : Bool} (h : M_g_cases_1 b0 a0 = some r1) : ACall cx 106 [.sl 2 (a0.map cF), .pim [.sl 2 (b0.map cF)] 0] (.c (.bool r1)) := by
  refine aOf Tryz.func106 rfl (by decide) rfl (Nat.le_of_ble_eq_true rfl) ?_; intro _; unfold M_g_cases_1 at h; refine aSR ?_; intro _; refine dr ?_; refine aSR ?_; intro _; obtain ⟨z1, u1, h⟩ := ob1_ok h; refine cl rfl (A_g_compare a0 b0 u1) ?_; intro _; refine dr ?_; refine aRt ?_; intro _; obtain rfl := inj1 h; exact ca_0
def M_g_cases_L1 (a1 : GOp) (a2 : Fact) : Nat → Int → (List GEffect) → Option (List GEffect)
  | 0, _, _ => none
  | k17 + 1, v15, v16 =>
    sel (decide (v15 < ((a1.Effs.map cGEffect).length : Int)))
     (ix a1.Effs v15 (fun y18 =>
       sel (y18.Var == a2.1)
        (grd ((v16.length + 1) * 40 ≤ 140737488355328) (M_g_cases_L1 a1 a2 k17 (IntKind.i64.wrap (v15 + 1)) (v16 ++ [y18])))
        (M_g_cases_L1 a1 a2 k17 (IntKind.i64.wrap (v15 + 1)) v16)))
     (some v16)
def M_g_cases_L2 (a0 : List Int) (a2 : Fact) (g : Nat) (v9 : List GEffect) (v780 : Int) : Nat → (List (List Fact)) → Int → Option ((List (List Fact)) ⊕ ((List (List Fact)) × Er))
  | 0, _, _ => none
  | k914 + 1, v912, v913 =>
    sel (decide (v913 < ((v9.length - (IntKind.i64.wrap (v780 + 1)).toNat : Nat) : Int)))
     (ixn v9 ((IntKind.i64.wrap (v780 + 1)).toNat + (v913).toNat) (fun y915 =>
       grd (0 ≤ v913) (grd (v913 < ((v9.length - (IntKind.i64.wrap (v780 + 1)).toNat : Nat) : Int)) (sel (y915.Val == a2.2)
        (M_g_cases_L2 a0 a2 g v9 v780 k914 v912 (IntKind.i64.wrap (v913 + 1)))
        (ob2 (M_g_silent a0 y915) (fun z916 z917 =>
          erM z917
           (ob2 (M_g_join g v912 z916) (fun z919 z920 =>
             erM z920
              (M_g_cases_L2 a0 a2 g v9 v780 k914 z919 (IntKind.i64.wrap (v913 + 1)))
              (fun e921 => some (.inr ([], (Er.no e921))))))
           (fun e918 => some (.inr ([], (Er.no e918))))))))))
     (some (.inl v912))
def M_g_cases_L3 (v892 : List (List Fact)) : Nat → Int → (List (List Fact)) → Option ((List (List Fact)) ⊕ ((List (List Fact)) × Er))
  | 0, _, _ => none
  | k930 + 1, v928, v929 =>
    sel (decide (v928 < ((v892.map cL_cF).length : Int)))
     (ix v892 v928 (fun y931 =>
       grd (v929.length ≤ 140737488355328) (ob1 (M_s_ContainsFunc_Fact v929 (M_g_cases_1 y931)) (fun z932 =>
        sel (!z932)
         (grd ((v929.length + 1) * 24 ≤ 140737488355328) (M_g_cases_L3 v892 k930 (IntKind.i64.wrap (v928 + 1)) (v929 ++ [y931])))
         (M_g_cases_L3 v892 k930 (IntKind.i64.wrap (v928 + 1)) v929)))))
     (some (.inl v929))
def M_g_cases_L4 (a0 : List Int) (a2 : Fact) (g : Nat) (v9 : List GEffect) : Nat → Int → (List (List Fact)) → Option ((List (List Fact)) ⊕ ((List (List Fact)) × Er))
  | 0, _, _ => none
  | k782 + 1, v780, v781 =>
    sel (decide (v780 ≥ (-1)))
     (ob1 (ob1 (sel (decide (v780 ≥ 0))
         (ixn v9 ((v780).toNat) (fun y864 =>
           grd (0 ≤ v780) (grd (v780 < ((v9.length : Nat) : Int)) (sel (y864.Val != a2.2)
            (some (.inr ()))
            (ixn v9 ((v780).toNat) (fun y865 =>
              some (.inl [y865.When])))))))
         (some (.inl [[a2]])) : Option ((List (List Fact)) ⊕ Unit))
        (osum
        (fun v862 => ob1 (grd (0 ≤ (IntKind.i64.wrap (v780 + 1))) (grd ((IntKind.i64.wrap (v780 + 1)).toNat ≤ v9.length) (M_g_cases_L2 a0 a2 g v9 v780 ((((v9.length - (IntKind.i64.wrap (v780 + 1)).toNat : Nat) : Int)).toNat + 1) v862 0)) : Option ((List (List Fact)) ⊕ ((List (List Fact)) × Er)))
           (osum
           (fun v892 => M_g_cases_L3 v892 ((((v892.map cL_cF).length : Int)).toNat + 1) 0 v781)
           (fun (r893, r894) => some (.inr (r893, r894)))))
        (fun _ => some (.inl v781))) : Option ((List (List Fact)) ⊕ ((List (List Fact)) × Er)))
       (osum
       (fun v856 => M_g_cases_L4 a0 a2 g v9 k782 (IntKind.i64.wrap (v780 - 1)) v856)
       (fun (r857, r858) => some (.inr (r857, r858)))))
     (some (.inl v781))
def M_g_cases (g : Nat) (a0 : List Int) (a1 : GOp) (a2 : Fact) : Option ((List (List Fact)) × Er) :=
  ob1 (M_g_cases_L1 a1 a2 ((((a1.Effs.map cGEffect).length : Int)).toNat + 1) 0 [] : Option (List GEffect))
   (fun v9 => ob1 (M_g_cases_L4 a0 a2 g v9 g (IntKind.i64.wrap (((v9.length : Nat) : Int) - 1)) [] : Option ((List (List Fact)) ⊕ ((List (List Fact)) × Er)))
      (osum
      (fun v474 => sel (decide (((v474.length : Nat) : Int) > 1024))
         (some ([], (Er.no 5)))
         (grd (v474.length ≤ 140737488355328) (some (v474, Er.nil))))
      (fun (r475, r476) => some (r475, r476))))
theorem A_g_cases (g : Nat) (a0 : List Int) (a1 : GOp) (a2 : Fact) {r1 : List (List Fact)} {r2 : Er} (h : M_g_cases g a0 a1 a2 = some (r1, r2)) : ACall cx 93 [.sl 1 (a0.map cI), .agg [.c (.string a1.Name), .c (.int .i64 a1.Cost), .sl 2 (a1.Pre.map cF), .sl 3 (a1.Effs.map cGEffect)], .agg [.c (.int .i64 a2.1), .c (.int .i64 a2.2)]] (.tup [.sl 1 (r1.map cL_cF), eA r2]) := by
  refine aOf Tryz.func93 rfl (by decide) rfl (Nat.le_of_ble_eq_true rfl) ?_; intro _; unfold M_g_cases at h; refine aSR ?_; intro _; refine dr ?_; refine aSR ?_; intro _; refine dr ?_; obtain ⟨o1, h, hK2⟩ := ob1_ok h; refine awp_cut (α := List GEffect) (fun v9 => mkS 116 [(0, .sl 1 (a0.map cI)), (5, .ptr 5 0 0 0), (8, .own 35 0 0 v9.length)] [(5, ⟨68, 2, true, [[.c (.int .i64 a2.1), .c (.int .i64 a2.2)]]⟩), (35, ⟨70, 3, false, v9.map cGEffect⟩)]) (fun v => o1 = v) ?_ ?_
  · refine aSR ?_; intro _; refine dr ?_; refine aBk ?_; refine awp_loop (α := Nat × Int × (List GEffect)) (fun x => mkS 116 [(0, .sl 1 (a0.map cI)), (5, .ptr 5 0 0 0), (8, .own 35 0 0 x.2.2.length), (21, .sl 3 (a1.Effs.map cGEffect)), (22, .c (.int .i64 ((a1.Effs.map cGEffect).length : Int))), (23, .c (.int .i64 x.2.1))] [(5, ⟨68, 2, true, [[.c (.int .i64 a2.1), .c (.int .i64 a2.2)]]⟩), (35, ⟨70, 3, false, x.2.2.map cGEffect⟩)]) (fun x => M_g_cases_L1 a1 a2 x.1 x.2.1 x.2.2 = some o1) (fun x => x.1) ((((a1.Effs.map cGEffect).length : Int)).toNat + 1, 0, []) h ?_ ?_
    · exact ca_0
    · intro x3 h; intro _; obtain ⟨k17, m4, h⟩ := succ_of (f := fun n => M_g_cases_L1 a1 a2 n x3.2.1 x3.2.2) rfl h; replace h : M_g_cases_L1 a1 a2 (k17 + 1) x3.2.1 x3.2.2 = some o1 := h; rw [M_g_cases_L1] at h; refine aSR ?_; intro _; refine dr ?_; refine aSq ?_; refine aCd ?_; intro _; refine spl h (fun c5 h => ?_) (fun c5 h => ?_)
      · refine aSk ?_; refine aSq ?_; refine aBk ?_; refine aSR ?_; intro _; obtain ⟨y18, w6, q7, h⟩ := ix_ok h; refine Exists.intro (cGEffect y18) (And.intro (map_at' w6) ?_); intro _; refine pr ?_; refine dr ?_; refine aSR ?_; intro _; refine dr ?_; refine aCd ?_; intro _; refine spl h (fun c8 h => ?_) (fun c8 h => ?_)
        · refine aRg ?_; intro _; obtain ⟨q9, h⟩ := grd_ok h; refine pl ?_; refine pl ?_; refine And.intro (by first | with_reducible assumption | (show (x3.2.2.length + 1) * 40 ≤ 140737488355328; with_reducible assumption) | omega | (simp; omega)) ?_; refine pe ?_; refine dr ?_; refine aRg ?_; intro _; refine dr ?_; refine ⟨(k17, (IntKind.i64.wrap (x3.2.1 + 1)), (x3.2.2 ++ [y18])), h, ltS m4, ?_⟩; exact ca_0
        · refine aSk ?_; refine aRg ?_; intro _; refine dr ?_; refine ⟨(k17, (IntKind.i64.wrap (x3.2.1 + 1)), x3.2.2), h, ltS m4, ?_⟩; exact ca_0
      · refine aEx ?_; refine ⟨x3.2.2, (Option.some.inj h).symm, ?_⟩; exact ca_0
  · rintro v9 ho; have ho := ho.symm; subst ho; intro _; replace h := hK2; refine aSR ?_; intro _; refine dr ?_; obtain ⟨o10, h, hK11⟩ := ob1_ok h; refine awp_cut (α := List (List Fact)) (fun v474 => mkS 116 [(11, .own 109 0 0 v474.length)] [(109, ⟨23, 1, false, v474.map cL_cF⟩)]) (fun v => o10 = (.inl v)) ?_ ?_
    · refine aSR ?_; intro _; refine dr ?_; refine aBk ?_; refine awp_loop (α := Nat × Int × (List (List Fact))) (fun x => mkS 116 [(0, .sl 1 (a0.map cI)), (5, .ptr 5 0 0 0), (8, .own 35 0 0 v9.length), (11, .own 109 0 0 x.2.2.length), (12, .c (.int .i64 x.2.1))] [(5, ⟨68, 2, true, [[.c (.int .i64 a2.1), .c (.int .i64 a2.2)]]⟩), (35, ⟨70, 3, false, v9.map cGEffect⟩), (109, ⟨23, 1, false, x.2.2.map cL_cF⟩)]) (fun x => M_g_cases_L4 a0 a2 g v9 x.1 x.2.1 x.2.2 = some o10) (fun x => x.1) (g, (IntKind.i64.wrap (((v9.length : Nat) : Int) - 1)), []) h ?_ ?_
      · exact ca_0
      · intro x12 h; intro _; obtain ⟨k782, m13, h⟩ := succ_of (f := fun n => M_g_cases_L4 a0 a2 g v9 n x12.2.1 x12.2.2) rfl h; replace h : M_g_cases_L4 a0 a2 g v9 (k782 + 1) x12.2.1 x12.2.2 = some o10 := h; rw [M_g_cases_L4] at h; refine aSq ?_; refine aSR ?_; intro _; refine dr ?_; refine aCd ?_; intro _; refine spl h (fun c14 h => ?_) (fun c14 h => ?_)
        · refine aSk ?_; obtain ⟨o15, h, hK16⟩ := ob1_ok h; refine awp_cut (α := List (List Fact)) (fun v856 => mkS 116 [(0, .sl 1 (a0.map cI)), (5, .ptr 5 0 0 0), (8, .own 35 0 0 v9.length), (11, .own 109 0 0 v856.length), (12, .c (.int .i64 x12.2.1))] [(5, ⟨68, 2, true, [[.c (.int .i64 a2.1), .c (.int .i64 a2.2)]]⟩), (35, ⟨70, 3, false, v9.map cGEffect⟩), (109, ⟨23, 1, false, v856.map cL_cF⟩)]) (fun v => o15 = (.inl v)) ?_ ?_
          · refine aBk ?_; refine aSR ?_; intro _; refine dr ?_; obtain ⟨o17, h, hK18⟩ := ob1_ok h; refine awp_cut (α := List (List Fact)) (fun v862 => mkS 116 [(0, .sl 1 (a0.map cI)), (5, .ptr 5 0 0 0), (8, .own 35 0 0 v9.length), (11, .own 109 0 0 x12.2.2.length), (12, .c (.int .i64 x12.2.1)), (13, .sl 1 (v862.map cL_cF))] [(5, ⟨68, 2, true, [[.c (.int .i64 a2.1), .c (.int .i64 a2.2)]]⟩), (35, ⟨70, 3, false, v9.map cGEffect⟩), (109, ⟨23, 1, false, x12.2.2.map cL_cF⟩)]) (fun v => o17 = (.inl v)) ?_ ?_
            · refine aSR ?_; intro _; refine dr ?_; refine aCd ?_; intro _; refine spl h (fun c19 h => ?_) (fun c19 h => ?_)
              · refine aSq ?_; refine aSR ?_; intro _; obtain ⟨y864, w20, h⟩ := ixn_ok h; refine Exists.intro (cGEffect y864) (And.intro (by first | exact map_at' w20 | (have w := map_at' (f := cGEffect) w20; simpa [cGEntry, cF, cGTask, cI, cGOp, cGEffect, cL_cF, cL_cL_cF, cL_cI, cGCertificate, cN, cGCover, cGChecker] using w)) ?_); intro _; obtain ⟨q21, h⟩ := grd_ok h; obtain ⟨q22, h⟩ := grd_ok h; refine pr ?_; refine pr ?_; refine dr ?_; refine aCd ?_; intro _; refine spl h (fun c23 h => ?_) (fun c23 h => ?_)
                · refine aEx ?_; have j24 := Option.some.inj h; subst j24; replace h := (osum_r hK18); refine ⟨x12.2.2, (Option.some.inj h).symm, ?_⟩; exact ca_0
                · refine aSk ?_; refine aRg ?_; intro _; obtain ⟨y865, w25, h⟩ := ixn_ok h; refine Exists.intro (cGEffect y865) (And.intro (by first | exact map_at' w25 | (have w := map_at' (f := cGEffect) w25; simpa [cGEntry, cF, cGTask, cI, cGOp, cGEffect, cL_cF, cL_cL_cF, cL_cI, cGCertificate, cN, cGCover, cGChecker] using w)) ?_); intro _; refine pr ?_; refine pr ?_; refine dr ?_; refine ⟨[y865.When], (Option.some.inj h).symm, ?_⟩; exact ca_0
              · refine aSk ?_; refine ⟨[[a2]], (Option.some.inj h).symm, ?_⟩; exact ca_0
            · rintro v862 ho; have ho := ho.symm; subst ho; intro _; replace h := (osum_l hK18); obtain ⟨o26, h, hK27⟩ := ob1_ok h; refine awp_cut (α := List (List Fact)) (fun v892 => mkS 116 [(0, .sl 1 (a0.map cI)), (5, .ptr 5 0 0 0), (8, .own 35 0 0 v9.length), (11, .own 109 0 0 x12.2.2.length), (12, .c (.int .i64 x12.2.1)), (13, .sl 1 (v892.map cL_cF))] [(5, ⟨68, 2, true, [[.c (.int .i64 a2.1), .c (.int .i64 a2.2)]]⟩), (35, ⟨70, 3, false, v9.map cGEffect⟩), (109, ⟨23, 1, false, x12.2.2.map cL_cF⟩)]) (fun v => o26 = (.inl v)) ?_ ?_
              · refine aSR ?_; intro _; obtain ⟨q28, h⟩ := grd_ok h; obtain ⟨q29, h⟩ := grd_ok h; refine pr ?_; refine pr ?_; refine pr ?_; refine dr ?_; refine aBk ?_; refine awp_loop (α := Nat × (List (List Fact)) × Int) (fun x => mkS 116 [(0, .sl 1 (a0.map cI)), (5, .ptr 5 0 0 0), (8, .own 35 0 0 v9.length), (11, .own 109 0 0 x12.2.2.length), (12, .c (.int .i64 x12.2.1)), (13, .sl 1 (x.2.1.map cL_cF)), (66, .own 35 0 ((IntKind.i64.wrap (x12.2.1 + 1)).toNat) (v9.length - (IntKind.i64.wrap (x12.2.1 + 1)).toNat)), (67, .c (.int .i64 ((v9.length - (IntKind.i64.wrap (x12.2.1 + 1)).toNat : Nat) : Int))), (68, .c (.int .i64 x.2.2))] [(5, ⟨68, 2, true, [[.c (.int .i64 a2.1), .c (.int .i64 a2.2)]]⟩), (35, ⟨70, 3, false, v9.map cGEffect⟩), (109, ⟨23, 1, false, x12.2.2.map cL_cF⟩)]) (fun x => M_g_cases_L2 a0 a2 g v9 x12.2.1 x.1 x.2.1 x.2.2 = some o26) (fun x => x.1) ((((v9.length - (IntKind.i64.wrap (x12.2.1 + 1)).toNat : Nat) : Int)).toNat + 1, v862, 0) h ?_ ?_
                · exact ca_0
                · intro x30 h; intro _; obtain ⟨k914, m31, h⟩ := succ_of (f := fun n => M_g_cases_L2 a0 a2 g v9 x12.2.1 n x30.2.1 x30.2.2) rfl h; replace h : M_g_cases_L2 a0 a2 g v9 x12.2.1 (k914 + 1) x30.2.1 x30.2.2 = some o26 := h; rw [M_g_cases_L2] at h; refine aSR ?_; intro _; refine dr ?_; refine aSq ?_; refine aCd ?_; intro _; refine spl h (fun c32 h => ?_) (fun c32 h => ?_)
                  · refine aSk ?_; refine aSq ?_; refine aBk ?_; refine aSR ?_; intro _; obtain ⟨y915, w33, h⟩ := ixn_ok h; refine Exists.intro (cGEffect y915) (And.intro (by first | exact map_at' w33 | (have w := map_at' (f := cGEffect) w33; simpa [cGEntry, cF, cGTask, cI, cGOp, cGEffect, cL_cF, cL_cL_cF, cL_cI, cGCertificate, cN, cGCover, cGChecker] using w)) ?_); intro _; obtain ⟨q34, h⟩ := grd_ok h; obtain ⟨q35, h⟩ := grd_ok h; refine pr ?_; refine pr ?_; refine dr ?_; refine aSq ?_; refine aSR ?_; intro _; refine dr ?_; refine aCd ?_; intro _; refine spl h (fun c36 h => ?_) (fun c36 h => ?_)
                    · refine aEx ?_; refine aRg ?_; intro _; refine dr ?_; refine ⟨(k914, x30.2.1, (IntKind.i64.wrap (x30.2.2 + 1))), h, ltS m31, ?_⟩; exact ca_0
                    · refine aSk ?_; refine aSR ?_; intro _; obtain ⟨z916, z917, u37, h⟩ := ob2_ok h; refine cl rfl (A_g_silent a0 y915 u37) ?_; intro _; refine dr ?_; refine aSq ?_; refine aSq ?_; rcases z917 with _ | e918
                      · replace h := erM_nil h; refine aRg ?_; intro _; refine dr ?_; refine aCd ?_; intro _; refine litF ?_; refine aSk ?_; refine aSR ?_; intro _; obtain ⟨z919, z920, u38, h⟩ := ob2_ok h; refine cl rfl (A_g_join g x30.2.1 z916 u38) ?_; intro _; refine dr ?_; refine aSq ?_; rcases z920 with _ | e921
                        · replace h := erM_nil h; refine aRg ?_; intro _; refine dr ?_; refine aCd ?_; intro _; refine litF ?_; refine aSk ?_; refine aRg ?_; intro _; refine dr ?_; refine ⟨(k914, z919, (IntKind.i64.wrap (x30.2.2 + 1))), h, ltS m31, ?_⟩; exact ca_0
                        · replace h := erM_no h; refine aRg ?_; intro _; refine dr ?_; refine aCd ?_; intro _; refine litT ?_; refine aSR ?_; intro _; refine dr ?_; refine aRt ?_; have j39 := Option.some.inj h; subst j39; replace h := (osum_r hK27); have j40 := Option.some.inj h; subst j40; replace h := (osum_r hK16); have j41 := Option.some.inj h; subst j41; replace h := (osum_r hK11); intro _; obtain ⟨rfl, rfl⟩ := inj2 h; exact ca_0
                      · replace h := erM_no h; refine aRg ?_; intro _; refine dr ?_; refine aCd ?_; intro _; refine litT ?_; refine aSR ?_; intro _; refine dr ?_; refine aRt ?_; have j42 := Option.some.inj h; subst j42; replace h := (osum_r hK27); have j43 := Option.some.inj h; subst j43; replace h := (osum_r hK16); have j44 := Option.some.inj h; subst j44; replace h := (osum_r hK11); intro _; obtain ⟨rfl, rfl⟩ := inj2 h; exact ca_0
                  · refine aEx ?_; refine ⟨x30.2.1, (Option.some.inj h).symm, ?_⟩; exact ca_0
              · rintro v892 ho; have ho := ho.symm; subst ho; intro _; replace h := (osum_l hK27); refine aSR ?_; intro _; refine dr ?_; refine aBk ?_; refine awp_loop (α := Nat × Int × (List (List Fact))) (fun x => mkS 116 [(0, .sl 1 (a0.map cI)), (5, .ptr 5 0 0 0), (8, .own 35 0 0 v9.length), (11, .own 109 0 0 x.2.2.length), (12, .c (.int .i64 x12.2.1)), (96, .sl 1 (v892.map cL_cF)), (97, .c (.int .i64 ((v892.map cL_cF).length : Int))), (98, .c (.int .i64 x.2.1))] [(5, ⟨68, 2, true, [[.c (.int .i64 a2.1), .c (.int .i64 a2.2)]]⟩), (35, ⟨70, 3, false, v9.map cGEffect⟩), (109, ⟨23, 1, false, x.2.2.map cL_cF⟩)]) (fun x => M_g_cases_L3 v892 x.1 x.2.1 x.2.2 = some o15) (fun x => x.1) ((((v892.map cL_cF).length : Int)).toNat + 1, 0, x12.2.2) h ?_ ?_
                · exact ca_0
                · intro x45 h; intro _; obtain ⟨k930, m46, h⟩ := succ_of (f := fun n => M_g_cases_L3 v892 n x45.2.1 x45.2.2) rfl h; replace h : M_g_cases_L3 v892 (k930 + 1) x45.2.1 x45.2.2 = some o15 := h; rw [M_g_cases_L3] at h; refine aSR ?_; intro _; refine dr ?_; refine aSq ?_; refine aCd ?_; intro _; refine spl h (fun c47 h => ?_) (fun c47 h => ?_)
                  · refine aSk ?_; refine aSq ?_; refine aBk ?_; refine aSR ?_; intro _; obtain ⟨y931, w48, q49, h⟩ := ix_ok h; refine Exists.intro (cL_cF y931) (And.intro (map_at' w48) ?_); intro _; refine pr ?_; refine dr ?_; refine aSR ?_; intro _; refine ⟨_, lf_func rfl (Nat.le_of_ble_eq_true rfl) rfl rfl, ?_⟩; intro _; obtain ⟨q50, h⟩ := grd_ok h; obtain ⟨z932, u51, h⟩ := ob1_ok h; refine clb [19, 109] rfl rfl (A_s_ContainsFunc_Fact x45.2.2 (M_g_cases_1 y931) (.clo (.func 106) [] [.pim [.sl 2 (y931.map cF)] 0]) (Fr.clo FrC_nil FrE.h) ⟨_, _, _, rfl⟩ (fun x0 y0 hx => ⟨106, [], _, rfl, A_g_cases_1 y931 x0 hx⟩) u51) ?_; intro _; refine dr ?_; refine aCd ?_; intro _; refine spl h (fun c52 h => ?_) (fun c52 h => ?_)
                    · refine aRg ?_; intro _; obtain ⟨q53, h⟩ := grd_ok h; refine pl ?_; refine pl ?_; refine And.intro (by first | with_reducible assumption | (show (x45.2.2.length + 1) * 24 ≤ 140737488355328; with_reducible assumption) | omega | (simp; omega)) ?_; refine pe ?_; refine dr ?_; refine aRg ?_; intro _; refine dr ?_; refine ⟨(k930, (IntKind.i64.wrap (x45.2.1 + 1)), (x45.2.2 ++ [y931])), h, ltS m46, ?_⟩; exact ca_0
                    · refine aSk ?_; refine aRg ?_; intro _; refine dr ?_; refine ⟨(k930, (IntKind.i64.wrap (x45.2.1 + 1)), x45.2.2), h, ltS m46, ?_⟩; exact ca_0
                  · refine aEx ?_; refine ⟨x45.2.2, (Option.some.inj h).symm, ?_⟩; exact ca_0
          · rintro v856 ho; have ho := ho.symm; subst ho; intro _; replace h := (osum_l hK16); refine aRg ?_; intro _; refine dr ?_; refine ⟨(k782, (IntKind.i64.wrap (x12.2.1 - 1)), v856), h, ltS m13, ?_⟩; exact ca_0
        · refine aEx ?_; refine ⟨x12.2.2, (Option.some.inj h).symm, ?_⟩; exact ca_0
    · rintro v474 ho; have ho := ho.symm; subst ho; intro _; replace h := (osum_l hK11); refine aSq ?_; refine aSR ?_; intro _; refine dr ?_; refine aCd ?_; intro _; refine spl h (fun c54 h => ?_) (fun c54 h => ?_)
      · refine aSR ?_; intro _; refine dr ?_; refine aRt ?_; intro _; obtain ⟨rfl, rfl⟩ := inj2 h; exact ca_0
      · refine aSk ?_; refine aSR ?_; intro _; refine dr ?_; refine aRt ?_; obtain ⟨q55, h⟩ := grd_ok h; intro _; obtain ⟨rfl, rfl⟩ := inj2 h; exact ca_0
def M_g_preimage_L1 (a0 : GTask) (a2 : List Fact) (g : Nat) (y7 : GOp) : Nat → Int → (List (List (List Fact))) → Option ((List (List (List Fact))) ⊕ ((List (List Fact)) × Er))
  | 0, _, _ => none
  | k46 + 1, v44, v45 =>
    sel (decide (v44 < ((a2.map cF).length : Int)))
     (ix a2 v44 (fun y47 =>
       ob2 (M_g_cases g a0.Vars y7 y47) (fun z48 z49 =>
        erM z49
         (ixn v45 ((v44).toNat) (fun _ =>
           grd (v44 < ((v45.length : Nat) : Int)) (M_g_preimage_L1 a0 a2 g y7 k46 (IntKind.i64.wrap (v44 + 1)) (v45.set ((v44).toNat) z48))))
         (fun e50 => some (.inr ([], (Er.no e50)))))))
     (some (.inl v45))
def M_g_preimage_L2 (g : Nat) (v28 : List (List (List Fact))) : Nat → (List (List Fact)) → Int → Option ((List (List Fact)) × Er)
  | 0, _, _ => none
  | k65 + 1, v63, v64 =>
    sel (decide (v64 < ((v28.length : Nat) : Int)))
     (ixn v28 ((v64).toNat) (fun y66 =>
       grd (0 ≤ v64) (grd (v64 < ((v28.length : Nat) : Int)) (ob2 (M_g_join g v63 y66) (fun z67 z68 =>
        erM z68
         (M_g_preimage_L2 g v28 k65 z67 (IntKind.i64.wrap (v64 + 1)))
         (fun e69 => some ([], (Er.no e69))))))))
     (some (v63, Er.nil))
def M_g_preimage (g : Nat) (a0 : GTask) (a1 : Int) (a2 : List Fact) : Option ((List (List Fact)) × Er) :=
  ob1 (M_task_Check a0) (fun z1 =>
   erM z1
    (ob1 (sel (decide (a1 < 0))
       (some (.inr ([], (Er.no 1))))
       (sel (decide (a1 ≥ ((a0.Ops.map cGOp).length : Int)))
         (some (.inr ([], (Er.no 1))))
         (some (.inl ()))) : Option (Unit ⊕ ((List (List Fact)) × Er)))
      (osum
      (fun _ => ob1 (M_task_Facts a0.Vars a2) (fun z6 =>
         sel (!z6)
          (some ([], (Er.no 2)))
          (ix a0.Ops a1 (fun y7 =>
            grd (0 ≤ ((a2.map cF).length : Int)) (grd (((a2.map cF).length : Int) * 24 ≤ 281474976710656) (ob1 (M_g_preimage_L1 a0 a2 g y7 ((((a2.map cF).length : Int)).toNat + 1) 0 (List.replicate ((a2.map cF).length : Int).toNat []) : Option ((List (List (List Fact))) ⊕ ((List (List Fact)) × Er)))
             (osum
             (fun v28 => ob1 (M_cloneF y7.Pre) (fun z52 =>
                grd (z52.length ≤ 140737488355328) (M_g_preimage_L2 g v28 ((((v28.length : Nat) : Int)).toNat + 1) [z52] 0)))
             (fun (r29, r30) => some (r29, r30)))))))))
      (fun (r3, r4) => some (r3, r4))))
    (fun e2 => some ([], (Er.no e2))))
theorem A_g_preimage (g : Nat) (a0 : GTask) (a1 : Int) (a2 : List Fact) {r1 : List (List Fact)} {r2 : Er} (h : M_g_preimage g a0 a1 a2 = some (r1, r2)) : ACall cx 75 [.agg [.sl 1 (a0.Vars.map cI), .sl 1 (a0.Init.map cI), .sl 2 (a0.Goal.map cF), .sl 4 (a0.Ops.map cGOp)], .c (.int .i64 a1), .sl 2 (a2.map cF)] (.tup [.sl 1 (r1.map cL_cF), eA r2]) := by
  refine aOf Tryz.func75 rfl (by decide) rfl (Nat.le_of_ble_eq_true rfl) ?_; intro _; unfold M_g_preimage at h; refine aSR ?_; intro _; refine dr ?_; refine aSq ?_; refine aSR ?_; intro _; obtain ⟨z1, u1, h⟩ := ob1_ok h; refine cl rfl (A_task_Check a0 u1) ?_; intro _; refine dr ?_; refine aSq ?_; rcases z1 with _ | e2
  · replace h := erM_nil h; refine aRg ?_; intro _; refine dr ?_; refine aCd ?_; intro _; refine litF ?_; refine aSk ?_; obtain ⟨o2, h, hK3⟩ := ob1_ok h; refine awp_cut (α := Unit) (fun _ => mkS 94 [(1, .c (.int .i64 a1)), (2, .sl 2 (a2.map cF)), (3, .ptr 3 0 0 0)] [(3, ⟨26, 4, true, [[.sl 1 (a0.Vars.map cI), .sl 1 (a0.Init.map cI), .sl 2 (a0.Goal.map cF), .sl 4 (a0.Ops.map cGOp)]]⟩)]) (fun v => o2 = (.inl v)) ?_ ?_
    · refine aSR ?_; intro _; refine spf h (fun c4 h => ?_) (fun c4 h => ?_)
      · intro _; refine dr ?_; refine aCd ?_; intro _; refine spl h (fun c5 h => ?_) (fun c5 h => ?_)
        · refine aSR ?_; intro _; refine dr ?_; refine aRt ?_; have j6 := Option.some.inj h; subst j6; replace h := (osum_r hK3); intro _; obtain ⟨rfl, rfl⟩ := inj2 h; exact ca_0
        · refine aSk ?_; refine ⟨(), (Option.some.inj h).symm, ?_⟩; exact ca_0
      · intro _; refine dr ?_; refine aCd ?_; intro _; refine litT ?_; refine aSR ?_; intro _; refine dr ?_; refine aRt ?_; have j7 := Option.some.inj h; subst j7; replace h := (osum_r hK3); intro _; obtain ⟨rfl, rfl⟩ := inj2 h; exact ca_0
    · rintro _ ho; have ho := ho.symm; subst ho; intro _; replace h := (osum_l hK3); refine aSq ?_; refine aSR ?_; intro _; obtain ⟨z6, u8, h⟩ := ob1_ok h; refine cl rfl (A_task_Facts a0.Vars a2 u8) ?_; intro _; refine dr ?_; refine aCd ?_; intro _; refine spl h (fun c9 h => ?_) (fun c9 h => ?_)
      · refine aSR ?_; intro _; refine dr ?_; refine aRt ?_; intro _; obtain ⟨rfl, rfl⟩ := inj2 h; exact ca_0
      · refine aSk ?_; refine aSR ?_; intro _; obtain ⟨y7, w10, q11, h⟩ := ix_ok h; refine Exists.intro (cGOp y7) (And.intro (map_at' w10) ?_); intro _; refine pr ?_; refine dr ?_; refine aSR ?_; intro _; obtain ⟨q12, h⟩ := grd_ok h; obtain ⟨q13, h⟩ := grd_ok h; refine ⟨_, lf_make rfl rfl (Nat.le_of_ble_eq_true rfl) (tyTab_ok 137 _ rfl) rfl (tyTab_ok 86 _ rfl) rfl rfl rfl (by first | assumption | omega) (by first | assumption | (show _ * (24 : Int) ≤ _; omega) | omega) (by omega) rfl (by simp only [Value.cells]; simp [Value.oneCell']) (by decide), ?_⟩; intro _; refine dr ?_; obtain ⟨o14, h, hK15⟩ := ob1_ok h; refine awp_cut (α := List (List (List Fact))) (fun v28 => mkS 94 [(9, .ptr 9 0 0 0), (10, .own 48 0 0 v28.length)] [(9, ⟨73, 4, true, [[.c (.string y7.Name), .c (.int .i64 y7.Cost), .sl 2 (y7.Pre.map cF), .sl 3 (y7.Effs.map cGEffect)]]⟩), (48, ⟨86, 1, false, v28.map cL_cL_cF⟩)]) (fun v => o14 = (.inl v)) ?_ ?_
        · refine aSR ?_; intro _; refine dr ?_; refine aBk ?_; refine awp_loop (α := Nat × Int × (List (List (List Fact)))) (fun x => mkS 94 [(3, .ptr 3 0 0 0), (9, .ptr 9 0 0 0), (10, .own 48 0 0 x.2.2.length), (49, .sl 2 (a2.map cF)), (50, .c (.int .i64 ((a2.map cF).length : Int))), (51, .c (.int .i64 x.2.1))] [(3, ⟨26, 4, true, [[.sl 1 (a0.Vars.map cI), .sl 1 (a0.Init.map cI), .sl 2 (a0.Goal.map cF), .sl 4 (a0.Ops.map cGOp)]]⟩), (9, ⟨73, 4, true, [[.c (.string y7.Name), .c (.int .i64 y7.Cost), .sl 2 (y7.Pre.map cF), .sl 3 (y7.Effs.map cGEffect)]]⟩), (48, ⟨86, 1, false, x.2.2.map cL_cL_cF⟩)]) (fun x => M_g_preimage_L1 a0 a2 g y7 x.1 x.2.1 x.2.2 = some o14) (fun x => x.1) ((((a2.map cF).length : Int)).toNat + 1, 0, (List.replicate ((a2.map cF).length : Int).toNat [])) h ?_ ?_
          · exact ca_0
          · intro x16 h; intro _; obtain ⟨k46, m17, h⟩ := succ_of (f := fun n => M_g_preimage_L1 a0 a2 g y7 n x16.2.1 x16.2.2) rfl h; replace h : M_g_preimage_L1 a0 a2 g y7 (k46 + 1) x16.2.1 x16.2.2 = some o14 := h; rw [M_g_preimage_L1] at h; refine aSR ?_; intro _; refine dr ?_; refine aSq ?_; refine aCd ?_; intro _; refine spl h (fun c18 h => ?_) (fun c18 h => ?_)
            · refine aSk ?_; refine aSq ?_; refine aBk ?_; refine aSR ?_; intro _; obtain ⟨y47, w19, q20, h⟩ := ix_ok h; refine Exists.intro (cF y47) (And.intro (map_at' w19) ?_); intro _; refine pr ?_; refine dr ?_; refine aSR ?_; intro _; obtain ⟨z48, z49, u21, h⟩ := ob2_ok h; refine cl rfl (A_g_cases g a0.Vars y7 y47 u21) ?_; intro _; refine dr ?_; refine aSq ?_; refine aSq ?_; rcases z49 with _ | e50
              · replace h := erM_nil h; refine aRg ?_; intro _; refine dr ?_; refine aCd ?_; intro _; refine litF ?_; refine aSk ?_; refine aRg ?_; intro _; obtain ⟨y51, w22, h⟩ := ixn_ok h; refine Exists.intro (cL_cL_cF y51) (And.intro (by first | exact map_at' w22 | (have w := map_at' (f := cL_cL_cF) w22; simpa [cGEntry, cF, cGTask, cI, cGOp, cGEffect, cL_cF, cL_cL_cF, cL_cI, cGCertificate, cN, cGCover, cGChecker] using w)) ?_); intro _; obtain ⟨q23, h⟩ := grd_ok h; refine pr ?_; refine pr ?_; refine dr ?_; refine aRg ?_; intro _; refine dr ?_; refine ⟨(k46, (IntKind.i64.wrap (x16.2.1 + 1)), (x16.2.2.set ((x16.2.1).toNat) z48)), h, ltS m17, ?_⟩; exact ca_0
              · replace h := erM_no h; refine aRg ?_; intro _; refine dr ?_; refine aCd ?_; intro _; refine litT ?_; refine aSR ?_; intro _; refine dr ?_; refine aRt ?_; have j24 := Option.some.inj h; subst j24; replace h := (osum_r hK15); intro _; obtain ⟨rfl, rfl⟩ := inj2 h; exact ca_0
            · refine aEx ?_; refine ⟨x16.2.2, (Option.some.inj h).symm, ?_⟩; exact ca_0
        · rintro v28 ho; have ho := ho.symm; subst ho; intro _; replace h := (osum_l hK15); refine aSR ?_; intro _; obtain ⟨z52, u25, h⟩ := ob1_ok h; refine clg [(0, 74)] [] [] [(74, ⟨2, some ⟨68, 2, false, z52.map cF⟩⟩)] (.own 74 2 0 z52.length) rfl rfl (A_cloneF y7.Pre u25) ?_; intro _; refine dr ?_; refine aSq ?_; refine aSR ?_; intro _; refine dr ?_; refine aBk ?_; obtain ⟨q26, h⟩ := grd_ok h; refine awp_loop (α := Nat × (List (List Fact)) × Int) (fun x => mkS 94 [(15, .sl 1 (x.2.1.map cL_cF)), (76, .own 48 0 0 v28.length), (77, .c (.int .i64 ((v28.length : Nat) : Int))), (78, .c (.int .i64 x.2.2))] [(48, ⟨86, 1, false, v28.map cL_cL_cF⟩)]) (fun x => M_g_preimage_L2 g v28 x.1 x.2.1 x.2.2 = some (r1, r2)) (fun x => x.1) ((((v28.length : Nat) : Int)).toNat + 1, [z52], 0) h ?_ ?_
          · exact ca_0
          · intro x27 h; intro _; obtain ⟨k65, m28, h⟩ := succ_of (f := fun n => M_g_preimage_L2 g v28 n x27.2.1 x27.2.2) rfl h; replace h : M_g_preimage_L2 g v28 (k65 + 1) x27.2.1 x27.2.2 = some (r1, r2) := h; rw [M_g_preimage_L2] at h; refine aSR ?_; intro _; refine dr ?_; refine aSq ?_; refine aCd ?_; intro _; refine spl h (fun c29 h => ?_) (fun c29 h => ?_)
            · refine aSk ?_; refine aSq ?_; refine aBk ?_; refine aSR ?_; intro _; obtain ⟨y66, w30, h⟩ := ixn_ok h; refine Exists.intro (cL_cL_cF y66) (And.intro (by first | exact map_at' w30 | (have w := map_at' (f := cL_cL_cF) w30; simpa [cGEntry, cF, cGTask, cI, cGOp, cGEffect, cL_cF, cL_cL_cF, cL_cI, cGCertificate, cN, cGCover, cGChecker] using w)) ?_); intro _; obtain ⟨q31, h⟩ := grd_ok h; obtain ⟨q32, h⟩ := grd_ok h; refine pr ?_; refine pr ?_; refine dr ?_; refine aSR ?_; intro _; obtain ⟨z67, z68, u33, h⟩ := ob2_ok h; refine cl rfl (A_g_join g x27.2.1 y66 u33) ?_; intro _; refine dr ?_; refine aSq ?_; refine aSq ?_; rcases z68 with _ | e69
              · replace h := erM_nil h; refine aRg ?_; intro _; refine dr ?_; refine aCd ?_; intro _; refine litF ?_; refine aSk ?_; refine aRg ?_; intro _; refine dr ?_; refine aRg ?_; intro _; refine dr ?_; refine ⟨(k65, z67, (IntKind.i64.wrap (x27.2.2 + 1))), h, ltS m28, ?_⟩; exact ca_0
              · replace h := erM_no h; refine aRg ?_; intro _; refine dr ?_; refine aCd ?_; intro _; refine litT ?_; refine aSR ?_; intro _; refine dr ?_; refine aRt ?_; intro _; obtain ⟨rfl, rfl⟩ := inj2 h; exact ca_0
            · refine aEx ?_; refine aSR ?_; intro _; refine dr ?_; refine aRt ?_; intro _; obtain ⟨rfl, rfl⟩ := inj2 h; exact ca_0
  · replace h := erM_no h; refine aRg ?_; intro _; refine dr ?_; refine aCd ?_; intro _; refine litT ?_; refine aSR ?_; intro _; refine dr ?_; refine aRt ?_; intro _; obtain ⟨rfl, rfl⟩ := inj2 h; exact ca_0
def M_p_find_L1 (a0 : List Fact) (a1 : Int) : Nat → Int → Option (Int)
  | 0, _ => none
  | k5 + 1, v4 =>
    sel (decide (v4 < ((a0.map cF).length : Int)))
     (ix a0 v4 (fun y6 =>
       sel (y6.1 == a1)
        (some y6.2)
        (M_p_find_L1 a0 a1 k5 (IntKind.i64.wrap (v4 + 1)))))
     (some (-1))
def M_p_find (a0 : List Fact) (a1 : Int) : Option (Int) :=
  M_p_find_L1 a0 a1 ((((a0.map cF).length : Int)).toNat + 1) 0
theorem A_p_find (a0 : List Fact) (a1 : Int) {r1 : Int} (h : M_p_find a0 a1 = some r1) : ACall cx 81 [.sl 2 (a0.map cF), .c (.int .i64 a1)] (.c (.int .i64 r1)) := by
  refine aOf Tryz.func81 rfl (by decide) rfl (Nat.le_of_ble_eq_true rfl) ?_; intro _; unfold M_p_find at h; refine aSR ?_; intro _; refine dr ?_; refine aSq ?_; refine aSR ?_; intro _; refine dr ?_; refine aBk ?_; refine awp_loop (α := Nat × Int) (fun x => mkS 20 [(1, .c (.int .i64 a1)), (7, .sl 2 (a0.map cF)), (8, .c (.int .i64 ((a0.map cF).length : Int))), (9, .c (.int .i64 x.2))] []) (fun x => M_p_find_L1 a0 a1 x.1 x.2 = some r1) (fun x => x.1) ((((a0.map cF).length : Int)).toNat + 1, 0) h ?_ ?_
  · exact ca_0
  · intro x1 h; intro _; obtain ⟨k5, m2, h⟩ := succ_of (f := fun n => M_p_find_L1 a0 a1 n x1.2) rfl h; replace h : M_p_find_L1 a0 a1 (k5 + 1) x1.2 = some r1 := h; rw [M_p_find_L1] at h; refine aSR ?_; intro _; refine dr ?_; refine aSq ?_; refine aCd ?_; intro _; refine spl h (fun c3 h => ?_) (fun c3 h => ?_)
    · refine aSk ?_; refine aSq ?_; refine aBk ?_; refine aSR ?_; intro _; obtain ⟨y6, w4, q5, h⟩ := ix_ok h; refine Exists.intro (cF y6) (And.intro (map_at' w4) ?_); intro _; refine pr ?_; refine dr ?_; refine aSR ?_; intro _; refine dr ?_; refine aCd ?_; intro _; refine spl h (fun c6 h => ?_) (fun c6 h => ?_)
      · refine aSR ?_; intro _; refine dr ?_; refine aRt ?_; intro _; obtain rfl := inj1 h; exact ca_0
      · refine aSk ?_; refine aRg ?_; intro _; refine dr ?_; refine ⟨(k5, (IntKind.i64.wrap (x1.2 + 1))), h, ltS m2, ?_⟩; exact ca_0
    · refine aEx ?_; refine aSR ?_; intro _; refine dr ?_; refine aRt ?_; intro _; obtain rfl := inj1 h; exact ca_0
def M_p_contains_L1 (a0 : List Fact) (a1 : List Fact) : Nat → Int → Option (Bool)
  | 0, _ => none
  | k7 + 1, v6 =>
    sel (decide (v6 < ((a1.map cF).length : Int)))
     (ix a1 v6 (fun y8 =>
       ob1 (M_p_find a0 y8.1) (fun z9 =>
        sel (z9 != y8.2)
         (some false)
         (M_p_contains_L1 a0 a1 k7 (IntKind.i64.wrap (v6 + 1))))))
     (some true)
def M_p_contains (a0 : List Fact) (a1 : List Fact) : Option (Bool) :=
  M_p_contains_L1 a0 a1 ((((a1.map cF).length : Int)).toNat + 1) 0
theorem A_p_contains (a0 : List Fact) (a1 : List Fact) {r1 : Bool} (h : M_p_contains a0 a1 = some r1) : ACall cx 49 [.sl 2 (a0.map cF), .sl 2 (a1.map cF)] (.c (.bool r1)) := by
  refine aOf Tryz.func49 rfl (by decide) rfl (Nat.le_of_ble_eq_true rfl) ?_; intro _; unfold M_p_contains at h; refine aSR ?_; intro _; refine dr ?_; refine aSq ?_; refine aSR ?_; intro _; refine dr ?_; refine aBk ?_; refine awp_loop (α := Nat × Int) (fun x => mkS 21 [(0, .sl 2 (a0.map cF)), (7, .sl 2 (a1.map cF)), (8, .c (.int .i64 ((a1.map cF).length : Int))), (9, .c (.int .i64 x.2))] []) (fun x => M_p_contains_L1 a0 a1 x.1 x.2 = some r1) (fun x => x.1) ((((a1.map cF).length : Int)).toNat + 1, 0) h ?_ ?_
  · exact ca_0
  · intro x1 h; intro _; obtain ⟨k7, m2, h⟩ := succ_of (f := fun n => M_p_contains_L1 a0 a1 n x1.2) rfl h; replace h : M_p_contains_L1 a0 a1 (k7 + 1) x1.2 = some r1 := h; rw [M_p_contains_L1] at h; refine aSR ?_; intro _; refine dr ?_; refine aSq ?_; refine aCd ?_; intro _; refine spl h (fun c3 h => ?_) (fun c3 h => ?_)
    · refine aSk ?_; refine aSq ?_; refine aBk ?_; refine aSR ?_; intro _; obtain ⟨y8, w4, q5, h⟩ := ix_ok h; refine Exists.intro (cF y8) (And.intro (map_at' w4) ?_); intro _; refine pr ?_; refine dr ?_; refine aSR ?_; intro _; obtain ⟨z9, u6, h⟩ := ob1_ok h; refine cl rfl (A_p_find a0 y8.1 u6) ?_; intro _; refine dr ?_; refine aCd ?_; intro _; refine spl h (fun c7 h => ?_) (fun c7 h => ?_)
      · refine aSR ?_; intro _; refine dr ?_; refine aRt ?_; intro _; obtain rfl := inj1 h; exact ca_0
      · refine aSk ?_; refine aRg ?_; intro _; refine dr ?_; refine ⟨(k7, (IntKind.i64.wrap (x1.2 + 1))), h, ltS m2, ?_⟩; exact ca_0
    · refine aEx ?_; refine aSR ?_; intro _; refine dr ?_; refine aRt ?_; intro _; obtain rfl := inj1 h; exact ca_0
def M_p_Minimal_L1 (a0 : List (List Fact)) (v115 : Int) (y149 : List Fact) : Nat → Int → Option (Bool)
  | 0, _ => none
  | k173 + 1, v172 =>
    sel (decide (v172 < ((a0.map cL_cF).length : Int)))
     (ix a0 v172 (fun y174 =>
       sel (v115 != v172)
        (ob1 (M_p_valid y174) (fun z175 =>
          sel z175
           (ob1 (M_p_contains y149 y174) (fun z176 =>
             sel z176
              (sel (decide (((y174.map cF).length : Int) < ((y149.map cF).length : Int)))
                (some false)
                (sel (decide (v172 < v115))
                  (some false)
                  (M_p_Minimal_L1 a0 v115 y149 k173 (IntKind.i64.wrap (v172 + 1)))))
              (M_p_Minimal_L1 a0 v115 y149 k173 (IntKind.i64.wrap (v172 + 1)))))
           (M_p_Minimal_L1 a0 v115 y149 k173 (IntKind.i64.wrap (v172 + 1)))))
        (M_p_Minimal_L1 a0 v115 y149 k173 (IntKind.i64.wrap (v172 + 1)))))
     (some true)
def M_p_Minimal_L2 (a0 : List (List Fact)) : Nat → Int → (List (List Fact)) → Option (List (List Fact))
  | 0, _, _ => none
  | k117 + 1, v115, v116 =>
    sel (decide (v115 < ((a0.map cL_cF).length : Int)))
     (ob1 (ix a0 v115 (fun y149 =>
        ob1 (M_p_valid y149) (fun z150 =>
         sel (!z150)
          (some v116)
          (ob1 (M_p_Minimal_L1 a0 v115 y149 ((((a0.map cL_cF).length : Int)).toNat + 1) 0 : Option (Bool))
            (fun v163 => sel v163
               (ob1 (M_cloneF y149) (fun z177 =>
                 grd ((v116.length + 1) * 24 ≤ 140737488355328) (grd (z177.length ≤ 140737488355328) (some (v116 ++ [z177])))))
               (some v116))))) : Option (List (List Fact)))
       (fun v147 => M_p_Minimal_L2 a0 k117 (IntKind.i64.wrap (v115 + 1)) v147))
     (some v116)
def M_p_Minimal (a0 : List (List Fact)) : Option (List (List Fact)) :=
  M_p_Minimal_L2 a0 ((((a0.map cL_cF).length : Int)).toNat + 1) 0 []
theorem A_p_Minimal (a0 : List (List Fact)) {r1 : List (List Fact)} (h : M_p_Minimal a0 = some r1) : ACallG cx 76 [.sl 1 (a0.map cL_cF)] [] [] (.own 0 0 0 r1.length) [(0, ⟨23, 1, false, r1.map cL_cF⟩)] := by
  refine acallg_of 60 Tryz.func76 rfl (by decide) rfl (Nat.le_of_ble_eq_true rfl) rfl rfl ?_; intro _; unfold M_p_Minimal at h; refine aSR ?_; intro _; refine dr ?_; refine aSR ?_; intro _; refine dr ?_; refine aSq ?_; refine aSR ?_; intro _; refine dr ?_; refine aBk ?_; refine awp_loop (α := Nat × Int × (List (List Fact))) (fun x => mkG 59 60 [(0, .sl 1 (a0.map cL_cF)), (3, .own 56 0 0 x.2.2.length), (9, .sl 1 (a0.map cL_cF)), (10, .c (.int .i64 ((a0.map cL_cF).length : Int))), (11, .c (.int .i64 x.2.1))] [(56, ⟨23, 1, false, x.2.2.map cL_cF⟩)]) (fun x => M_p_Minimal_L2 a0 x.1 x.2.1 x.2.2 = some r1) (fun x => x.1) ((((a0.map cL_cF).length : Int)).toNat + 1, 0, []) h ?_ ?_
  · exact ca_0
  · intro x1 h; intro _; obtain ⟨k117, m2, h⟩ := succ_of (f := fun n => M_p_Minimal_L2 a0 n x1.2.1 x1.2.2) rfl h; replace h : M_p_Minimal_L2 a0 (k117 + 1) x1.2.1 x1.2.2 = some r1 := h; rw [M_p_Minimal_L2] at h; refine aSR ?_; intro _; refine dr ?_; refine aSq ?_; refine aCd ?_; intro _; refine spl h (fun c3 h => ?_) (fun c3 h => ?_)
    · refine aSk ?_; obtain ⟨o4, h, hK5⟩ := ob1_ok h; refine awp_cut (α := List (List Fact)) (fun v147 => mkG 59 60 [(0, .sl 1 (a0.map cL_cF)), (3, .own 56 0 0 v147.length), (9, .sl 1 (a0.map cL_cF)), (10, .c (.int .i64 ((a0.map cL_cF).length : Int))), (11, .c (.int .i64 x1.2.1))] [(56, ⟨23, 1, false, v147.map cL_cF⟩)]) (fun v => o4 = v) ?_ ?_
      · refine aBk ?_; refine aSR ?_; intro _; obtain ⟨y149, w6, q7, h⟩ := ix_ok h; refine Exists.intro (cL_cF y149) (And.intro (map_at' w6) ?_); intro _; refine pr ?_; refine dr ?_; refine aSq ?_; refine aSR ?_; intro _; obtain ⟨z150, u8, h⟩ := ob1_ok h; refine cl rfl (A_p_valid y149 u8) ?_; intro _; refine dr ?_; refine aCd ?_; intro _; refine spl h (fun c9 h => ?_) (fun c9 h => ?_)
        · refine aEx ?_; refine ⟨x1.2.2, (Option.some.inj h).symm, ?_⟩; exact ca_0
        · refine aSk ?_; refine aSR ?_; intro _; refine dr ?_; obtain ⟨o10, h, hK11⟩ := ob1_ok h; refine awp_cut (α := Bool) (fun v163 => mkG 59 60 [(0, .sl 1 (a0.map cL_cF)), (3, .own 56 0 0 x1.2.2.length), (5, .sl 2 (y149.map cF)), (6, .c (.bool v163)), (9, .sl 1 (a0.map cL_cF)), (10, .c (.int .i64 ((a0.map cL_cF).length : Int))), (11, .c (.int .i64 x1.2.1))] [(56, ⟨23, 1, false, x1.2.2.map cL_cF⟩)]) (fun v => o10 = v) ?_ ?_
          · refine aSR ?_; intro _; refine dr ?_; refine aBk ?_; refine awp_loop (α := Nat × Int) (fun x => mkG 59 60 [(0, .sl 1 (a0.map cL_cF)), (3, .own 56 0 0 x1.2.2.length), (4, .c (.int .i64 x1.2.1)), (5, .sl 2 (y149.map cF)), (6, .c (.bool true)), (9, .sl 1 (a0.map cL_cF)), (10, .c (.int .i64 ((a0.map cL_cF).length : Int))), (11, .c (.int .i64 x1.2.1)), (19, .sl 1 (a0.map cL_cF)), (20, .c (.int .i64 ((a0.map cL_cF).length : Int))), (21, .c (.int .i64 x.2))] [(56, ⟨23, 1, false, x1.2.2.map cL_cF⟩)]) (fun x => M_p_Minimal_L1 a0 x1.2.1 y149 x.1 x.2 = some o10) (fun x => x.1) ((((a0.map cL_cF).length : Int)).toNat + 1, 0) h ?_ ?_
            · exact ca_0
            · intro x12 h; intro _; obtain ⟨k173, m13, h⟩ := succ_of (f := fun n => M_p_Minimal_L1 a0 x1.2.1 y149 n x12.2) rfl h; replace h : M_p_Minimal_L1 a0 x1.2.1 y149 (k173 + 1) x12.2 = some o10 := h; rw [M_p_Minimal_L1] at h; refine aSR ?_; intro _; refine dr ?_; refine aSq ?_; refine aCd ?_; intro _; refine spl h (fun c14 h => ?_) (fun c14 h => ?_)
              · refine aSk ?_; refine aSq ?_; refine aBk ?_; refine aSR ?_; intro _; obtain ⟨y174, w15, q16, h⟩ := ix_ok h; refine Exists.intro (cL_cF y174) (And.intro (map_at' w15) ?_); intro _; refine pr ?_; refine dr ?_; refine aSR ?_; intro _; refine spl h (fun c17 h => ?_) (fun c17 h => ?_)
                · intro _; obtain ⟨z175, u18, h⟩ := ob1_ok h; refine cl rfl (A_p_valid y174 u18) ?_; intro _; refine spl h (fun c19 h => ?_) (fun c19 h => ?_)
                  · intro _; obtain ⟨z176, u20, h⟩ := ob1_ok h; refine cl rfl (A_p_contains y149 y174 u20) ?_; intro _; refine spl h (fun c21 h => ?_) (fun c21 h => ?_)
                    · intro _; refine spf h (fun c22 h => ?_) (fun c22 h => ?_)
                      · intro _; refine dr ?_; refine aCd ?_; intro _; refine spl h (fun c23 h => ?_) (fun c23 h => ?_)
                        · refine aSR ?_; intro _; refine dr ?_; refine aEx ?_; refine ⟨false, (Option.some.inj h).symm, ?_⟩; exact ca_0
                        · refine aSk ?_; refine aRg ?_; intro _; refine dr ?_; refine ⟨(k173, (IntKind.i64.wrap (x12.2 + 1))), h, ltS m13, ?_⟩; exact ca_0
                      · intro _; refine dr ?_; refine aCd ?_; intro _; refine litT ?_; refine aSR ?_; intro _; refine dr ?_; refine aEx ?_; refine ⟨false, (Option.some.inj h).symm, ?_⟩; exact ca_0
                    · intro _; refine dr ?_; refine aCd ?_; intro _; refine litF ?_; refine aSk ?_; refine aRg ?_; intro _; refine dr ?_; refine ⟨(k173, (IntKind.i64.wrap (x12.2 + 1))), h, ltS m13, ?_⟩; exact ca_0
                  · intro _; refine dr ?_; refine aCd ?_; intro _; refine litF ?_; refine aSk ?_; refine aRg ?_; intro _; refine dr ?_; refine ⟨(k173, (IntKind.i64.wrap (x12.2 + 1))), h, ltS m13, ?_⟩; exact ca_0
                · intro _; refine dr ?_; refine aCd ?_; intro _; refine litF ?_; refine aSk ?_; refine aRg ?_; intro _; refine dr ?_; refine ⟨(k173, (IntKind.i64.wrap (x12.2 + 1))), h, ltS m13, ?_⟩; exact ca_0
              · refine aEx ?_; refine ⟨true, (Option.some.inj h).symm, ?_⟩; exact ca_0
          · rintro v163 ho; have ho := ho.symm; subst ho; intro _; replace h := hK11; refine aSR ?_; intro _; refine dr ?_; refine aCd ?_; intro _; refine spl h (fun c24 h => ?_) (fun c24 h => ?_)
            · refine aRg ?_; intro _; obtain ⟨z177, u25, h⟩ := ob1_ok h; refine clg [(0, 54)] [] [] [(54, ⟨2, some ⟨68, 2, false, z177.map cF⟩⟩)] (.own 54 2 0 z177.length) rfl rfl (A_cloneF y149 u25) ?_; intro _; obtain ⟨q26, h⟩ := grd_ok h; refine pl ?_; refine pl ?_; refine And.intro (by first | with_reducible assumption | (show (x1.2.2.length + 1) * 24 ≤ 140737488355328; with_reducible assumption) | omega | (simp; omega)) ?_; refine pe ?_; refine dr ?_; obtain ⟨q27, h⟩ := grd_ok h; refine ⟨(x1.2.2 ++ [z177]), (Option.some.inj h).symm, ?_⟩; exact ca_0
            · refine aSk ?_; refine ⟨x1.2.2, (Option.some.inj h).symm, ?_⟩; exact ca_0
      · rintro v147 ho; have ho := ho.symm; subst ho; intro _; replace h := hK5; refine aRg ?_; intro _; refine dr ?_; refine ⟨(k117, (IntKind.i64.wrap (x1.2.1 + 1)), v147), h, ltS m2, ?_⟩; exact ca_0
    · refine aEx ?_; refine aSR ?_; intro _; refine dr ?_; refine aRt ?_; intro _; obtain rfl := inj1 h; all_goals (refine Exists.intro [(0, 56)] (And.intro rfl (And.intro ?_ ?_))); all_goals (exact zg_0)
def M_g_Regress_L1 (z4 : List (List Fact)) : Nat → Int → (List (List Fact)) → Option ((List (List Fact)) × Er)
  | 0, _, _ => none
  | k16 + 1, v14, v15 =>
    sel (decide (v14 < ((z4.length : Nat) : Int)))
     (ixn v15 ((v14).toNat) (fun y17 =>
       ob1 (M_cloneF y17) (fun z18 =>
        ixn v15 ((v14).toNat) (fun _ =>
         grd (0 ≤ v14) (grd (v14 < ((v15.length : Nat) : Int)) (grd (z18.length ≤ 140737488355328) (M_g_Regress_L1 z4 k16 (IntKind.i64.wrap (v14 + 1)) (v15.set ((v14).toNat) z18))))))))
     (grd (v15.length ≤ 140737488355328) (some (v15, Er.nil)))
def M_g_Regress (g : Nat) (a0 : GTask) (a1 : Int) (a2 : List Fact) : Option ((List (List Fact)) × Er) :=
  ob2 (M_g_preimage g a0 a1 a2) (fun z1 z2 =>
   erM z2
    (ob1 (M_p_Minimal z1) (fun z4 =>
      ob1 (M_sortL z4) (fun c5 =>
       grd (c5.length = z4.length) (M_g_Regress_L1 z4 ((((z4.length : Nat) : Int)).toNat + 1) 0 c5))))
    (fun e3 => some ([], (Er.no e3))))
theorem A_g_Regress (g : Nat) (a0 : GTask) (a1 : Int) (a2 : List Fact) {r1 : List (List Fact)} {r2 : Er} (h : M_g_Regress g a0 a1 a2 = some (r1, r2)) : ACall cx 44 [.agg [.sl 1 (a0.Vars.map cI), .sl 1 (a0.Init.map cI), .sl 2 (a0.Goal.map cF), .sl 4 (a0.Ops.map cGOp)], .c (.int .i64 a1), .sl 2 (a2.map cF)] (.tup [.sl 1 (r1.map cL_cF), eA r2]) := by
  refine aOf Tryz.func44 rfl (by decide) rfl (Nat.le_of_ble_eq_true rfl) ?_; intro _; unfold M_g_Regress at h; refine aSR ?_; intro _; refine dr ?_; refine aSR ?_; intro _; obtain ⟨z1, z2, u1, h⟩ := ob2_ok h; refine cl rfl (A_g_preimage g a0 a1 a2 u1) ?_; intro _; refine dr ?_; refine aSq ?_; refine aSq ?_; rcases z2 with _ | e3
  · replace h := erM_nil h; refine aRg ?_; intro _; refine dr ?_; refine aCd ?_; intro _; refine litF ?_; refine aSk ?_; refine aSR ?_; intro _; obtain ⟨z4, u2, h⟩ := ob1_ok h; refine clg [(0, 23)] [] [] [(23, ⟨2, some ⟨23, 1, false, z4.map cL_cF⟩⟩)] (.own 23 2 0 z4.length) rfl rfl (A_p_Minimal z1 u2) ?_; intro _; refine dr ?_; refine aSR ?_; intro _; obtain ⟨c5, u3, h⟩ := ob1_ok h; refine clg [(900, 23)] [] [] [(23, ⟨2, some ⟨23, 1, false, c5.map cL_cF⟩⟩)] (.tup []) rfl rfl (A_sortL z4 u3) ?_; obtain ⟨q4, h⟩ := grd_ok h; intro _; refine dr ?_; refine aSq ?_; refine aSR ?_; intro _; refine dr ?_; refine aBk ?_; refine awp_loop (α := Nat × Int × (List (List Fact))) (fun x => mkS 41 [(10, .own 23 0 0 x.2.2.length), (27, .c (.int .i64 ((z4.length : Nat) : Int))), (28, .c (.int .i64 x.2.1))] [(23, ⟨23, 1, false, x.2.2.map cL_cF⟩)]) (fun x => M_g_Regress_L1 z4 x.1 x.2.1 x.2.2 = some (r1, r2)) (fun x => x.1) ((((z4.length : Nat) : Int)).toNat + 1, 0, c5) h ?_ ?_
    · exact ca_0
    · intro x5 h; intro _; obtain ⟨k16, m6, h⟩ := succ_of (f := fun n => M_g_Regress_L1 z4 n x5.2.1 x5.2.2) rfl h; replace h : M_g_Regress_L1 z4 (k16 + 1) x5.2.1 x5.2.2 = some (r1, r2) := h; rw [M_g_Regress_L1] at h; refine aSR ?_; intro _; refine dr ?_; refine aSq ?_; refine aCd ?_; intro _; refine spl h (fun c7 h => ?_) (fun c7 h => ?_)
      · refine aSk ?_; refine aSq ?_; refine aBk ?_; refine aSR ?_; intro _; refine dr ?_; refine aRg ?_; intro _; obtain ⟨y17, w8, h⟩ := ixn_ok h; refine Exists.intro (cL_cF y17) (And.intro (by first | exact map_at' w8 | (have w := map_at' (f := cL_cF) w8; simpa [cGEntry, cF, cGTask, cI, cGOp, cGEffect, cL_cF, cL_cL_cF, cL_cI, cGCertificate, cN, cGCover, cGChecker] using w)) ?_); intro _; obtain ⟨z18, u9, h⟩ := ob1_ok h; refine clg [(0, 37)] [] [] [(37, ⟨2, some ⟨68, 2, false, z18.map cF⟩⟩)] (.own 37 2 0 z18.length) rfl rfl (A_cloneF y17 u9) ?_; intro _; obtain ⟨y19, w10, h⟩ := ixn_ok h; refine Exists.intro (cL_cF y19) (And.intro (by first | exact map_at' w10 | (have w := map_at' (f := cL_cF) w10; simpa [cGEntry, cF, cGTask, cI, cGOp, cGEffect, cL_cF, cL_cL_cF, cL_cI, cGCertificate, cN, cGCover, cGChecker] using w)) ?_); intro _; obtain ⟨q11, h⟩ := grd_ok h; obtain ⟨q12, h⟩ := grd_ok h; refine pr ?_; refine pr ?_; refine pr ?_; refine pr ?_; refine dr ?_; refine aRg ?_; intro _; refine dr ?_; obtain ⟨q13, h⟩ := grd_ok h; refine ⟨(k16, (IntKind.i64.wrap (x5.2.1 + 1)), (x5.2.2.set ((x5.2.1).toNat) z18)), h, ltS m6, ?_⟩; exact ca_0
      · refine aEx ?_; refine aSR ?_; intro _; refine dr ?_; refine aRt ?_; obtain ⟨q14, h⟩ := grd_ok h; intro _; obtain ⟨rfl, rfl⟩ := inj2 h; exact ca_0
  · replace h := erM_no h; refine aRg ?_; intro _; refine dr ?_; refine aCd ?_; intro _; refine litT ?_; refine aSR ?_; intro _; refine dr ?_; refine aRt ?_; intro _; obtain ⟨rfl, rfl⟩ := inj2 h; exact ca_0
def M_b_State_L1 (a0 : List Int) (a1 : List Int) : Nat → Int → Option (Bool)
  | 0, _ => none
  | k9 + 1, v8 =>
    sel (decide (v8 < ((a1.map cI).length : Int)))
     (ix a1 v8 (fun y10 =>
       sel (decide (y10 < 0))
        (some false)
        (ix a1 v8 (fun y11 =>
          ix a0 v8 (fun y12 =>
           sel (decide (y11 ≥ y12))
            (some false)
            (M_b_State_L1 a0 a1 k9 (IntKind.i64.wrap (v8 + 1))))))))
     (some true)
def M_b_State (a0 : List Int) (a1 : List Int) : Option (Bool) :=
  sel (((a1.map cI).length : Int) != ((a0.map cI).length : Int))
   (some false)
   (M_b_State_L1 a0 a1 ((((a1.map cI).length : Int)).toNat + 1) 0)
theorem A_b_State (a0 : List Int) (a1 : List Int) {r1 : Bool} (h : M_b_State a0 a1 = some r1) : ACall cx 87 [.sl 1 (a0.map cI), .sl 1 (a1.map cI)] (.c (.bool r1)) := by
  refine aOf Tryz.func87 rfl (by decide) rfl (Nat.le_of_ble_eq_true rfl) ?_; intro _; unfold M_b_State at h; refine aSR ?_; intro _; refine dr ?_; refine aSq ?_; refine aSR ?_; intro _; refine dr ?_; refine aCd ?_; intro _; refine spl h (fun c1 h => ?_) (fun c1 h => ?_)
  · refine aSR ?_; intro _; refine dr ?_; refine aRt ?_; intro _; obtain rfl := inj1 h; exact ca_0
  · refine aSk ?_; refine aSq ?_; refine aSR ?_; intro _; refine dr ?_; refine aBk ?_; refine awp_loop (α := Nat × Int) (fun x => mkS 33 [(0, .sl 1 (a0.map cI)), (1, .sl 1 (a1.map cI)), (12, .c (.int .i64 ((a1.map cI).length : Int))), (13, .c (.int .i64 x.2))] []) (fun x => M_b_State_L1 a0 a1 x.1 x.2 = some r1) (fun x => x.1) ((((a1.map cI).length : Int)).toNat + 1, 0) h ?_ ?_
    · exact ca_0
    · intro x2 h; intro _; obtain ⟨k9, m3, h⟩ := succ_of (f := fun n => M_b_State_L1 a0 a1 n x2.2) rfl h; replace h : M_b_State_L1 a0 a1 (k9 + 1) x2.2 = some r1 := h; rw [M_b_State_L1] at h; refine aSR ?_; intro _; refine dr ?_; refine aSq ?_; refine aCd ?_; intro _; refine spl h (fun c4 h => ?_) (fun c4 h => ?_)
      · refine aSk ?_; refine aSq ?_; refine aBk ?_; refine aSR ?_; intro _; refine dr ?_; refine aSR ?_; intro _; obtain ⟨y10, w5, q6, h⟩ := ix_ok h; refine Exists.intro (cI y10) (And.intro (map_at' w5) ?_); intro _; refine spf h (fun c7 h => ?_) (fun c7 h => ?_)
        · intro _; obtain ⟨y11, w8, q9, h⟩ := ix_ok h; refine Exists.intro (cI y11) (And.intro (map_at' w8) ?_); intro _; obtain ⟨y12, w10, q11, h⟩ := ix_ok h; refine Exists.intro (cI y12) (And.intro (map_at' w10) ?_); intro _; refine pr ?_; refine pr ?_; refine pr ?_; refine dr ?_; refine aCd ?_; intro _; refine spl h (fun c12 h => ?_) (fun c12 h => ?_)
          · refine aSR ?_; intro _; refine dr ?_; refine aRt ?_; intro _; obtain rfl := inj1 h; exact ca_0
          · refine aSk ?_; refine aRg ?_; intro _; refine dr ?_; refine ⟨(k9, (IntKind.i64.wrap (x2.2 + 1))), h, ltS m3, ?_⟩; exact ca_0
        · intro _; refine pr ?_; refine dr ?_; refine aCd ?_; intro _; refine litT ?_; refine aSR ?_; intro _; refine dr ?_; refine aRt ?_; intro _; obtain rfl := inj1 h; exact ca_0
      · refine aEx ?_; refine aSR ?_; intro _; refine dr ?_; refine aRt ?_; intro _; obtain rfl := inj1 h; exact ca_0
def M_b_Proper_L1 (a0 : List Int) (a1 : List Fact) : Nat → Int → Option (Bool)
  | 0, _ => none
  | k8 + 1, v7 =>
    sel (decide (v7 < ((a1.map cF).length : Int)))
     (ix a1 v7 (fun y9 =>
       sel (decide (y9.1 < 0))
        (some false)
        (sel (decide (y9.1 ≥ ((a0.map cI).length : Int)))
          (some false)
          (sel (decide (y9.2 < 0))
            (some false)
            (ix a0 y9.1 (fun y10 =>
              sel (decide (y9.2 ≥ y10))
               (some false)
               (sel (decide (v7 > 0))
                 (ix a1 (IntKind.i64.wrap (v7 - 1)) (fun y11 =>
                   sel (decide (y11.1 ≥ y9.1))
                    (some false)
                    (M_b_Proper_L1 a0 a1 k8 (IntKind.i64.wrap (v7 + 1)))))
                 (M_b_Proper_L1 a0 a1 k8 (IntKind.i64.wrap (v7 + 1))))))))))
     (some true)
def M_b_Proper (a0 : List Int) (a1 : List Fact) : Option (Bool) :=
  M_b_Proper_L1 a0 a1 ((((a1.map cF).length : Int)).toNat + 1) 0
theorem A_b_Proper (a0 : List Int) (a1 : List Fact) {r1 : Bool} (h : M_b_Proper a0 a1 = some r1) : ACall cx 88 [.sl 1 (a0.map cI), .sl 2 (a1.map cF)] (.c (.bool r1)) := by
  refine aOf Tryz.func88 rfl (by decide) rfl (Nat.le_of_ble_eq_true rfl) ?_; intro _; unfold M_b_Proper at h; refine aSR ?_; intro _; refine dr ?_; refine aSq ?_; refine aSR ?_; intro _; refine dr ?_; refine aBk ?_; refine awp_loop (α := Nat × Int) (fun x => mkS 55 [(0, .sl 1 (a0.map cI)), (1, .sl 2 (a1.map cF)), (7, .sl 2 (a1.map cF)), (8, .c (.int .i64 ((a1.map cF).length : Int))), (9, .c (.int .i64 x.2))] []) (fun x => M_b_Proper_L1 a0 a1 x.1 x.2 = some r1) (fun x => x.1) ((((a1.map cF).length : Int)).toNat + 1, 0) h ?_ ?_
  · exact ca_0
  · intro x1 h; intro _; obtain ⟨k8, m2, h⟩ := succ_of (f := fun n => M_b_Proper_L1 a0 a1 n x1.2) rfl h; replace h : M_b_Proper_L1 a0 a1 (k8 + 1) x1.2 = some r1 := h; rw [M_b_Proper_L1] at h; refine aSR ?_; intro _; refine dr ?_; refine aSq ?_; refine aCd ?_; intro _; refine spl h (fun c3 h => ?_) (fun c3 h => ?_)
    · refine aSk ?_; refine aSq ?_; refine aBk ?_; refine aSR ?_; intro _; obtain ⟨y9, w4, q5, h⟩ := ix_ok h; refine Exists.intro (cF y9) (And.intro (map_at' w4) ?_); intro _; refine pr ?_; refine dr ?_; refine aSR ?_; intro _; refine spf h (fun c6 h => ?_) (fun c6 h => ?_)
      · intro _; refine spf h (fun c7 h => ?_) (fun c7 h => ?_)
        · intro _; refine spf h (fun c8 h => ?_) (fun c8 h => ?_)
          · intro _; obtain ⟨y10, w9, q10, h⟩ := ix_ok h; refine Exists.intro (cI y10) (And.intro (map_at' w9) ?_); intro _; refine spf h (fun c11 h => ?_) (fun c11 h => ?_)
            · intro _; refine spl h (fun c12 h => ?_) (fun c12 h => ?_)
              · intro _; obtain ⟨y11, w13, q14, h⟩ := ix_ok h; refine Exists.intro (cF y11) (And.intro (map_at' w13) ?_); intro _; refine pr ?_; refine pr ?_; refine dr ?_; refine aCd ?_; intro _; refine spl h (fun c15 h => ?_) (fun c15 h => ?_)
                · refine aSR ?_; intro _; refine dr ?_; refine aRt ?_; intro _; obtain rfl := inj1 h; exact ca_0
                · refine aSk ?_; refine aRg ?_; intro _; refine dr ?_; refine ⟨(k8, (IntKind.i64.wrap (x1.2 + 1))), h, ltS m2, ?_⟩; exact ca_0
              · intro _; refine pr ?_; refine dr ?_; refine aCd ?_; intro _; refine litF ?_; refine aSk ?_; refine aRg ?_; intro _; refine dr ?_; refine ⟨(k8, (IntKind.i64.wrap (x1.2 + 1))), h, ltS m2, ?_⟩; exact ca_0
            · intro _; refine pr ?_; refine dr ?_; refine aCd ?_; intro _; refine litT ?_; refine aSR ?_; intro _; refine dr ?_; refine aRt ?_; intro _; obtain rfl := inj1 h; exact ca_0
          · intro _; refine dr ?_; refine aCd ?_; intro _; refine litT ?_; refine aSR ?_; intro _; refine dr ?_; refine aRt ?_; intro _; obtain rfl := inj1 h; exact ca_0
        · intro _; refine dr ?_; refine aCd ?_; intro _; refine litT ?_; refine aSR ?_; intro _; refine dr ?_; refine aRt ?_; intro _; obtain rfl := inj1 h; exact ca_0
      · intro _; refine dr ?_; refine aCd ?_; intro _; refine litT ?_; refine aSR ?_; intro _; refine dr ?_; refine aRt ?_; intro _; obtain rfl := inj1 h; exact ca_0
    · refine aEx ?_; refine aSR ?_; intro _; refine dr ?_; refine aRt ?_; intro _; obtain rfl := inj1 h; exact ca_0
def M_b_operator_L1 (a1 : GOp) : Nat → Int → Option (Unit ⊕ Bool)
  | 0, _ => none
  | k12 + 1, v11 =>
    sel (decide (v11 < (a1.Name.size : Int)))
     (sel (decide ((byt a1.Name v11) < 32))
       (grd (0 ≤ v11) (grd (v11 < (a1.Name.size : Int)) (some (.inr false))))
       (grd (0 ≤ v11) (grd (v11 < (a1.Name.size : Int)) (sel (decide ((byt a1.Name v11) > 126))
         (some (.inr false))
         (M_b_operator_L1 a1 k12 (IntKind.i64.wrap (v11 + 1)))))))
     (some (.inl ()))
def M_b_operator_L2 (a0 : List Int) (a1 : GOp) : Nat → Int → Option (Bool)
  | 0, _ => none
  | k21 + 1, v20 =>
    sel (decide (v20 < ((a1.Effs.map cGEffect).length : Int)))
     (ix a1.Effs v20 (fun y22 =>
       ob1 (M_b_Proper a0 y22.When) (fun z23 =>
        sel (!z23)
         (some false)
         (ob1 (M_b_Proper a0 [(y22.Var, y22.Val)]) (fun z24 =>
           sel (!z24)
            (some false)
            (M_b_operator_L2 a0 a1 k21 (IntKind.i64.wrap (v20 + 1))))))))
     (some true)
def M_b_operator (a0 : List Int) (a1 : GOp) : Option (Bool) :=
  ob1 (sel (decide (a1.Cost < 0))
    (some (.inr false))
    (sel (decide (a1.Cost > 1048576))
      (some (.inr false))
      (sel (decide (((a1.Effs.map cGEffect).length : Int) > 64))
        (some (.inr false))
        (sel (decide ((a1.Name.size : Int) > 256))
          (some (.inr false))
          (ob1 (M_b_Proper a0 a1.Pre) (fun z4 =>
            sel (!z4)
             (some (.inr false))
             (some (.inl ()))))))) : Option (Unit ⊕ Bool))
   (osum
   (fun _ => ob1 (M_b_operator_L1 a1 (((a1.Name.size : Int)).toNat + 1) 0 : Option (Unit ⊕ Bool))
      (osum
      (fun _ => M_b_operator_L2 a0 a1 ((((a1.Effs.map cGEffect).length : Int)).toNat + 1) 0)
      (fun r8 => some r8)))
   (fun r2 => some r2))
theorem A_b_operator (a0 : List Int) (a1 : GOp) {r1 : Bool} (h : M_b_operator a0 a1 = some r1) : ACall cx 103 [.sl 1 (a0.map cI), .agg [.c (.string a1.Name), .c (.int .i64 a1.Cost), .sl 2 (a1.Pre.map cF), .sl 3 (a1.Effs.map cGEffect)]] (.c (.bool r1)) := by
  refine aOf Tryz.func103 rfl (by decide) rfl (Nat.le_of_ble_eq_true rfl) ?_; intro _; unfold M_b_operator at h; refine aSR ?_; intro _; refine dr ?_; obtain ⟨o1, h, hK2⟩ := ob1_ok h; refine awp_cut (α := Unit) (fun _ => mkS 78 [(0, .sl 1 (a0.map cI)), (3, .ptr 3 0 0 0)] [(3, ⟨73, 4, true, [[.c (.string a1.Name), .c (.int .i64 a1.Cost), .sl 2 (a1.Pre.map cF), .sl 3 (a1.Effs.map cGEffect)]]⟩)]) (fun v => o1 = (.inl v)) ?_ ?_
  · refine aSR ?_; intro _; refine spf h (fun c3 h => ?_) (fun c3 h => ?_)
    · intro _; refine spf h (fun c4 h => ?_) (fun c4 h => ?_)
      · intro _; refine spf h (fun c5 h => ?_) (fun c5 h => ?_)
        · intro _; refine spf h (fun c6 h => ?_) (fun c6 h => ?_)
          · intro _; obtain ⟨z4, u7, h⟩ := ob1_ok h; refine cl rfl (A_b_Proper a0 a1.Pre u7) ?_; intro _; refine dr ?_; refine aCd ?_; intro _; refine spl h (fun c8 h => ?_) (fun c8 h => ?_)
            · refine aSR ?_; intro _; refine dr ?_; refine aRt ?_; have j9 := Option.some.inj h; subst j9; replace h := (osum_r hK2); intro _; obtain rfl := inj1 h; exact ca_0
            · refine aSk ?_; refine ⟨(), (Option.some.inj h).symm, ?_⟩; exact ca_0
          · intro _; refine dr ?_; refine aCd ?_; intro _; refine litT ?_; refine aSR ?_; intro _; refine dr ?_; refine aRt ?_; have j10 := Option.some.inj h; subst j10; replace h := (osum_r hK2); intro _; obtain rfl := inj1 h; exact ca_0
        · intro _; refine dr ?_; refine aCd ?_; intro _; refine litT ?_; refine aSR ?_; intro _; refine dr ?_; refine aRt ?_; have j11 := Option.some.inj h; subst j11; replace h := (osum_r hK2); intro _; obtain rfl := inj1 h; exact ca_0
      · intro _; refine dr ?_; refine aCd ?_; intro _; refine litT ?_; refine aSR ?_; intro _; refine dr ?_; refine aRt ?_; have j12 := Option.some.inj h; subst j12; replace h := (osum_r hK2); intro _; obtain rfl := inj1 h; exact ca_0
    · intro _; refine dr ?_; refine aCd ?_; intro _; refine litT ?_; refine aSR ?_; intro _; refine dr ?_; refine aRt ?_; have j13 := Option.some.inj h; subst j13; replace h := (osum_r hK2); intro _; obtain rfl := inj1 h; exact ca_0
  · rintro _ ho; have ho := ho.symm; subst ho; intro _; replace h := (osum_l hK2); obtain ⟨o14, h, hK15⟩ := ob1_ok h; refine awp_cut (α := Unit) (fun _ => mkS 78 [(0, .sl 1 (a0.map cI)), (3, .ptr 3 0 0 0)] [(3, ⟨73, 4, true, [[.c (.string a1.Name), .c (.int .i64 a1.Cost), .sl 2 (a1.Pre.map cF), .sl 3 (a1.Effs.map cGEffect)]]⟩)]) (fun v => o14 = (.inl v)) ?_ ?_
    · refine aSR ?_; intro _; refine dr ?_; refine aBk ?_; refine awp_loop (α := Nat × Int) (fun x => mkS 78 [(0, .sl 1 (a0.map cI)), (3, .ptr 3 0 0 0), (37, .c (.int .i64 (a1.Name.size : Int))), (38, .c (.int .i64 x.2))] [(3, ⟨73, 4, true, [[.c (.string a1.Name), .c (.int .i64 a1.Cost), .sl 2 (a1.Pre.map cF), .sl 3 (a1.Effs.map cGEffect)]]⟩)]) (fun x => M_b_operator_L1 a1 x.1 x.2 = some o14) (fun x => x.1) (((a1.Name.size : Int)).toNat + 1, 0) h ?_ ?_
      · exact ca_0
      · intro x16 h; intro _; obtain ⟨k12, m17, h⟩ := succ_of (f := fun n => M_b_operator_L1 a1 n x16.2) rfl h; replace h : M_b_operator_L1 a1 (k12 + 1) x16.2 = some o14 := h; rw [M_b_operator_L1] at h; refine aSR ?_; intro _; refine dr ?_; refine aSq ?_; refine aCd ?_; intro _; refine spl h (fun c18 h => ?_) (fun c18 h => ?_)
        · refine aSk ?_; refine aSq ?_; refine aBk ?_; refine aSR ?_; intro _; refine dr ?_; refine aSR ?_; intro _; refine spf h (fun c19 h => ?_) (fun c19 h => ?_)
          · intro _; obtain ⟨q20, h⟩ := grd_ok h; obtain ⟨q21, h⟩ := grd_ok h; refine pr ?_; refine pr ?_; refine pr ?_; refine pr ?_; refine dr ?_; refine aCd ?_; intro _; refine spl h (fun c22 h => ?_) (fun c22 h => ?_)
            · refine aSR ?_; intro _; refine dr ?_; refine aRt ?_; have j23 := Option.some.inj h; subst j23; replace h := (osum_r hK15); intro _; obtain rfl := inj1 h; exact ca_0
            · refine aSk ?_; refine aRg ?_; intro _; refine dr ?_; refine ⟨(k12, (IntKind.i64.wrap (x16.2 + 1))), h, ltS m17, ?_⟩; exact ca_0
          · intro _; obtain ⟨q24, h⟩ := grd_ok h; obtain ⟨q25, h⟩ := grd_ok h; refine pr ?_; refine pr ?_; refine dr ?_; refine aCd ?_; intro _; refine litT ?_; refine aSR ?_; intro _; refine dr ?_; refine aRt ?_; have j26 := Option.some.inj h; subst j26; replace h := (osum_r hK15); intro _; obtain rfl := inj1 h; exact ca_0
        · refine aEx ?_; refine ⟨(), (Option.some.inj h).symm, ?_⟩; exact ca_0
    · rintro _ ho; have ho := ho.symm; subst ho; intro _; replace h := (osum_l hK15); refine aSq ?_; refine aSR ?_; intro _; refine dr ?_; refine aBk ?_; refine awp_loop (α := Nat × Int) (fun x => mkS 78 [(0, .sl 1 (a0.map cI)), (55, .sl 3 (a1.Effs.map cGEffect)), (56, .c (.int .i64 ((a1.Effs.map cGEffect).length : Int))), (57, .c (.int .i64 x.2))] []) (fun x => M_b_operator_L2 a0 a1 x.1 x.2 = some r1) (fun x => x.1) ((((a1.Effs.map cGEffect).length : Int)).toNat + 1, 0) h ?_ ?_
      · exact ca_0
      · intro x27 h; intro _; obtain ⟨k21, m28, h⟩ := succ_of (f := fun n => M_b_operator_L2 a0 a1 n x27.2) rfl h; replace h : M_b_operator_L2 a0 a1 (k21 + 1) x27.2 = some r1 := h; rw [M_b_operator_L2] at h; refine aSR ?_; intro _; refine dr ?_; refine aSq ?_; refine aCd ?_; intro _; refine spl h (fun c29 h => ?_) (fun c29 h => ?_)
        · refine aSk ?_; refine aSq ?_; refine aBk ?_; refine aSR ?_; intro _; obtain ⟨y22, w30, q31, h⟩ := ix_ok h; refine Exists.intro (cGEffect y22) (And.intro (map_at' w30) ?_); intro _; refine pr ?_; refine dr ?_; refine aSR ?_; intro _; obtain ⟨z23, u32, h⟩ := ob1_ok h; refine cl rfl (A_b_Proper a0 y22.When u32) ?_; intro _; refine spf h (fun c33 h => ?_) (fun c33 h => ?_)
          · intro _; obtain ⟨z24, u34, h⟩ := ob1_ok h; refine clb [73] rfl rfl (A_b_Proper a0 [(y22.Var, y22.Val)] u34) ?_; intro _; refine dr ?_; refine aCd ?_; intro _; refine spl h (fun c35 h => ?_) (fun c35 h => ?_)
            · refine aSR ?_; intro _; refine dr ?_; refine aRt ?_; intro _; obtain rfl := inj1 h; exact ca_0
            · refine aSk ?_; refine aRg ?_; intro _; refine dr ?_; refine ⟨(k21, (IntKind.i64.wrap (x27.2 + 1))), h, ltS m28, ?_⟩; exact ca_0
          · intro _; refine dr ?_; refine aCd ?_; intro _; refine litT ?_; refine aSR ?_; intro _; refine dr ?_; refine aRt ?_; intro _; obtain rfl := inj1 h; exact ca_0
        · refine aEx ?_; refine aSR ?_; intro _; refine dr ?_; refine aRt ?_; intro _; obtain rfl := inj1 h; exact ca_0
def M_b_Good_L1 (a0 : GTask) : Nat → Int → Option (Unit ⊕ Bool)
  | 0, _ => none
  | k15 + 1, v14 =>
    sel (decide (v14 < ((a0.Vars.map cI).length : Int)))
     (ix a0.Vars v14 (fun y16 =>
       sel (decide (y16 < 1))
        (some (.inr false))
        (sel (decide (y16 > 64))
          (some (.inr false))
          (M_b_Good_L1 a0 k15 (IntKind.i64.wrap (v14 + 1))))))
     (some (.inl ()))
def M_b_Good_L2 (a0 : GTask) : Nat → Int → Option (Bool)
  | 0, _ => none
  | k29 + 1, v28 =>
    sel (decide (v28 < ((a0.Ops.map cGOp).length : Int)))
     (ix a0.Ops v28 (fun y30 =>
       ob1 (M_b_operator a0.Vars y30) (fun z31 =>
        sel (!z31)
         (some false)
         (M_b_Good_L2 a0 k29 (IntKind.i64.wrap (v28 + 1))))))
     (some true)
def M_b_Good (a0 : GTask) : Option (Bool) :=
  ob1 (sel (decide (((a0.Vars.map cI).length : Int) > 64))
    (some (.inr false))
    (sel (decide (((a0.Ops.map cGOp).length : Int) > 4096))
      (some (.inr false))
      (some (.inl ()))) : Option (Unit ⊕ Bool))
   (osum
   (fun _ => ob1 (M_b_Good_L1 a0 ((((a0.Vars.map cI).length : Int)).toNat + 1) 0 : Option (Unit ⊕ Bool))
      (osum
      (fun _ => ob1 (ob1 (M_b_State a0.Vars a0.Init) (fun z21 =>
          sel (!z21)
           (some (.inr false))
           (ob1 (M_b_Proper a0.Vars a0.Goal) (fun z22 =>
             sel (!z22)
              (some (.inr false))
              (some (.inl ()))))) : Option (Unit ⊕ Bool))
         (osum
         (fun _ => M_b_Good_L2 a0 ((((a0.Ops.map cGOp).length : Int)).toNat + 1) 0)
         (fun r19 => some r19)))
      (fun r9 => some r9)))
   (fun r1 => some r1))
theorem A_b_Good (a0 : GTask) {r1 : Bool} (h : M_b_Good a0 = some r1) : ACall cx 89 [.agg [.sl 1 (a0.Vars.map cI), .sl 1 (a0.Init.map cI), .sl 2 (a0.Goal.map cF), .sl 4 (a0.Ops.map cGOp)]] (.c (.bool r1)) := by
  refine aOf Tryz.func89 rfl (by decide) rfl (Nat.le_of_ble_eq_true rfl) ?_; intro _; unfold M_b_Good at h; refine aSR ?_; intro _; refine dr ?_; obtain ⟨o1, h, hK2⟩ := ob1_ok h; refine awp_cut (α := Unit) (fun _ => mkS 58 [(1, .ptr 1 0 0 0)] [(1, ⟨26, 4, true, [[.sl 1 (a0.Vars.map cI), .sl 1 (a0.Init.map cI), .sl 2 (a0.Goal.map cF), .sl 4 (a0.Ops.map cGOp)]]⟩)]) (fun v => o1 = (.inl v)) ?_ ?_
  · refine aSR ?_; intro _; refine spf h (fun c3 h => ?_) (fun c3 h => ?_)
    · intro _; refine dr ?_; refine aCd ?_; intro _; refine spl h (fun c4 h => ?_) (fun c4 h => ?_)
      · refine aSR ?_; intro _; refine dr ?_; refine aRt ?_; have j5 := Option.some.inj h; subst j5; replace h := (osum_r hK2); intro _; obtain rfl := inj1 h; exact ca_0
      · refine aSk ?_; refine ⟨(), (Option.some.inj h).symm, ?_⟩; exact ca_0
    · intro _; refine dr ?_; refine aCd ?_; intro _; refine litT ?_; refine aSR ?_; intro _; refine dr ?_; refine aRt ?_; have j6 := Option.some.inj h; subst j6; replace h := (osum_r hK2); intro _; obtain rfl := inj1 h; exact ca_0
  · rintro _ ho; have ho := ho.symm; subst ho; intro _; replace h := (osum_l hK2); obtain ⟨o7, h, hK8⟩ := ob1_ok h; refine awp_cut (α := Unit) (fun _ => mkS 58 [(1, .ptr 1 0 0 0)] [(1, ⟨26, 4, true, [[.sl 1 (a0.Vars.map cI), .sl 1 (a0.Init.map cI), .sl 2 (a0.Goal.map cF), .sl 4 (a0.Ops.map cGOp)]]⟩)]) (fun v => o7 = (.inl v)) ?_ ?_
    · refine aSR ?_; intro _; refine dr ?_; refine aBk ?_; refine awp_loop (α := Nat × Int) (fun x => mkS 58 [(1, .ptr 1 0 0 0), (18, .sl 1 (a0.Vars.map cI)), (19, .c (.int .i64 ((a0.Vars.map cI).length : Int))), (20, .c (.int .i64 x.2))] [(1, ⟨26, 4, true, [[.sl 1 (a0.Vars.map cI), .sl 1 (a0.Init.map cI), .sl 2 (a0.Goal.map cF), .sl 4 (a0.Ops.map cGOp)]]⟩)]) (fun x => M_b_Good_L1 a0 x.1 x.2 = some o7) (fun x => x.1) ((((a0.Vars.map cI).length : Int)).toNat + 1, 0) h ?_ ?_
      · exact ca_0
      · intro x9 h; intro _; obtain ⟨k15, m10, h⟩ := succ_of (f := fun n => M_b_Good_L1 a0 n x9.2) rfl h; replace h : M_b_Good_L1 a0 (k15 + 1) x9.2 = some o7 := h; rw [M_b_Good_L1] at h; refine aSR ?_; intro _; refine dr ?_; refine aSq ?_; refine aCd ?_; intro _; refine spl h (fun c11 h => ?_) (fun c11 h => ?_)
        · refine aSk ?_; refine aSq ?_; refine aBk ?_; refine aSR ?_; intro _; obtain ⟨y16, w12, q13, h⟩ := ix_ok h; refine Exists.intro (cI y16) (And.intro (map_at' w12) ?_); intro _; refine pr ?_; refine dr ?_; refine aSR ?_; intro _; refine spf h (fun c14 h => ?_) (fun c14 h => ?_)
          · intro _; refine dr ?_; refine aCd ?_; intro _; refine spl h (fun c15 h => ?_) (fun c15 h => ?_)
            · refine aSR ?_; intro _; refine dr ?_; refine aRt ?_; have j16 := Option.some.inj h; subst j16; replace h := (osum_r hK8); intro _; obtain rfl := inj1 h; exact ca_0
            · refine aSk ?_; refine aRg ?_; intro _; refine dr ?_; refine ⟨(k15, (IntKind.i64.wrap (x9.2 + 1))), h, ltS m10, ?_⟩; exact ca_0
          · intro _; refine dr ?_; refine aCd ?_; intro _; refine litT ?_; refine aSR ?_; intro _; refine dr ?_; refine aRt ?_; have j17 := Option.some.inj h; subst j17; replace h := (osum_r hK8); intro _; obtain rfl := inj1 h; exact ca_0
        · refine aEx ?_; refine ⟨(), (Option.some.inj h).symm, ?_⟩; exact ca_0
    · rintro _ ho; have ho := ho.symm; subst ho; intro _; replace h := (osum_l hK8); obtain ⟨o18, h, hK19⟩ := ob1_ok h; refine awp_cut (α := Unit) (fun _ => mkS 58 [(1, .ptr 1 0 0 0)] [(1, ⟨26, 4, true, [[.sl 1 (a0.Vars.map cI), .sl 1 (a0.Init.map cI), .sl 2 (a0.Goal.map cF), .sl 4 (a0.Ops.map cGOp)]]⟩)]) (fun v => o18 = (.inl v)) ?_ ?_
      · refine aSR ?_; intro _; obtain ⟨z21, u20, h⟩ := ob1_ok h; refine cl rfl (A_b_State a0.Vars a0.Init u20) ?_; intro _; refine spf h (fun c21 h => ?_) (fun c21 h => ?_)
        · intro _; obtain ⟨z22, u22, h⟩ := ob1_ok h; refine cl rfl (A_b_Proper a0.Vars a0.Goal u22) ?_; intro _; refine dr ?_; refine aCd ?_; intro _; refine spl h (fun c23 h => ?_) (fun c23 h => ?_)
          · refine aSR ?_; intro _; refine dr ?_; refine aRt ?_; have j24 := Option.some.inj h; subst j24; replace h := (osum_r hK19); intro _; obtain rfl := inj1 h; exact ca_0
          · refine aSk ?_; refine ⟨(), (Option.some.inj h).symm, ?_⟩; exact ca_0
        · intro _; refine dr ?_; refine aCd ?_; intro _; refine litT ?_; refine aSR ?_; intro _; refine dr ?_; refine aRt ?_; have j25 := Option.some.inj h; subst j25; replace h := (osum_r hK19); intro _; obtain rfl := inj1 h; exact ca_0
      · rintro _ ho; have ho := ho.symm; subst ho; intro _; replace h := (osum_l hK19); refine aSq ?_; refine aSR ?_; intro _; refine dr ?_; refine aBk ?_; refine awp_loop (α := Nat × Int) (fun x => mkS 58 [(1, .ptr 1 0 0 0), (46, .sl 4 (a0.Ops.map cGOp)), (47, .c (.int .i64 ((a0.Ops.map cGOp).length : Int))), (48, .c (.int .i64 x.2))] [(1, ⟨26, 4, true, [[.sl 1 (a0.Vars.map cI), .sl 1 (a0.Init.map cI), .sl 2 (a0.Goal.map cF), .sl 4 (a0.Ops.map cGOp)]]⟩)]) (fun x => M_b_Good_L2 a0 x.1 x.2 = some r1) (fun x => x.1) ((((a0.Ops.map cGOp).length : Int)).toNat + 1, 0) h ?_ ?_
        · exact ca_0
        · intro x26 h; intro _; obtain ⟨k29, m27, h⟩ := succ_of (f := fun n => M_b_Good_L2 a0 n x26.2) rfl h; replace h : M_b_Good_L2 a0 (k29 + 1) x26.2 = some r1 := h; rw [M_b_Good_L2] at h; refine aSR ?_; intro _; refine dr ?_; refine aSq ?_; refine aCd ?_; intro _; refine spl h (fun c28 h => ?_) (fun c28 h => ?_)
          · refine aSk ?_; refine aSq ?_; refine aBk ?_; refine aSR ?_; intro _; obtain ⟨y30, w29, q30, h⟩ := ix_ok h; refine Exists.intro (cGOp y30) (And.intro (map_at' w29) ?_); intro _; refine pr ?_; refine dr ?_; refine aSR ?_; intro _; obtain ⟨z31, u31, h⟩ := ob1_ok h; refine cl rfl (A_b_operator a0.Vars y30 u31) ?_; intro _; refine dr ?_; refine aCd ?_; intro _; refine spl h (fun c32 h => ?_) (fun c32 h => ?_)
            · refine aSR ?_; intro _; refine dr ?_; refine aRt ?_; intro _; obtain rfl := inj1 h; exact ca_0
            · refine aSk ?_; refine aRg ?_; intro _; refine dr ?_; refine ⟨(k29, (IntKind.i64.wrap (x26.2 + 1))), h, ltS m27, ?_⟩; exact ca_0
          · refine aEx ?_; refine aSR ?_; intro _; refine dr ?_; refine aRt ?_; intro _; obtain rfl := inj1 h; exact ca_0
def M_b_Many_L1 (a0 : List Int) (a1 : Int) : Nat → Int → Int → Option (Int)
  | 0, _, _ => none
  | k7 + 1, v5, v6 =>
    sel (decide (v6 < ((a0.map cI).length : Int)))
     (ix a0 v6 (fun y8 =>
       sel (decide ((IntKind.i64.wrap (v5 * (min (max y8 0) (IntKind.i64.wrap (a1 + 1))))) > a1))
        (some (IntKind.i64.wrap (a1 + 1)))
        (M_b_Many_L1 a0 a1 k7 (IntKind.i64.wrap (v5 * (min (max y8 0) (IntKind.i64.wrap (a1 + 1))))) (IntKind.i64.wrap (v6 + 1)))))
     (some v5)
def M_b_Many (a0 : List Int) (a1 : Int) : Option (Int) :=
  M_b_Many_L1 a0 a1 ((((a0.map cI).length : Int)).toNat + 1) 1 0
theorem A_b_Many (a0 : List Int) (a1 : Int) {r1 : Int} (h : M_b_Many a0 a1 = some r1) : ACall cx 35 [.sl 1 (a0.map cI), .c (.int .i64 a1)] (.c (.int .i64 r1)) := by
  refine aOf Tryz.func35 rfl (by decide) rfl (Nat.le_of_ble_eq_true rfl) ?_; intro _; unfold M_b_Many at h; refine aSR ?_; intro _; refine dr ?_; refine aSR ?_; intro _; refine dr ?_; refine aSq ?_; refine aSR ?_; intro _; refine dr ?_; refine aBk ?_; refine awp_loop (α := Nat × Int × Int) (fun x => mkS 28 [(1, .c (.int .i64 a1)), (5, .c (.int .i64 x.2.1)), (8, .sl 1 (a0.map cI)), (9, .c (.int .i64 ((a0.map cI).length : Int))), (10, .c (.int .i64 x.2.2))] []) (fun x => M_b_Many_L1 a0 a1 x.1 x.2.1 x.2.2 = some r1) (fun x => x.1) ((((a0.map cI).length : Int)).toNat + 1, 1, 0) h ?_ ?_
  · exact ca_0
  · intro x1 h; intro _; obtain ⟨k7, m2, h⟩ := succ_of (f := fun n => M_b_Many_L1 a0 a1 n x1.2.1 x1.2.2) rfl h; replace h : M_b_Many_L1 a0 a1 (k7 + 1) x1.2.1 x1.2.2 = some r1 := h; rw [M_b_Many_L1] at h; refine aSR ?_; intro _; refine dr ?_; refine aSq ?_; refine aCd ?_; intro _; refine spl h (fun c3 h => ?_) (fun c3 h => ?_)
    · refine aSk ?_; refine aSq ?_; refine aBk ?_; refine aSR ?_; intro _; obtain ⟨y8, w4, q5, h⟩ := ix_ok h; refine Exists.intro (cI y8) (And.intro (map_at' w4) ?_); intro _; refine pr ?_; refine dr ?_; refine aSR ?_; intro _; refine ⟨_, lf_max rfl (Nat.le_of_ble_eq_true rfl) rfl rfl, ?_⟩; intro _; refine ⟨_, lf_min rfl (Nat.le_of_ble_eq_true rfl) rfl rfl, ?_⟩; intro _; refine dr ?_; refine aSR ?_; intro _; refine dr ?_; refine aCd ?_; intro _; refine spl h (fun c6 h => ?_) (fun c6 h => ?_)
      · refine aSR ?_; intro _; refine dr ?_; refine aRt ?_; intro _; obtain rfl := inj1 h; exact ca_0
      · refine aSk ?_; refine aRg ?_; intro _; refine dr ?_; refine ⟨(k7, (IntKind.i64.wrap (x1.2.1 * (min (max y8 0) (IntKind.i64.wrap (a1 + 1))))), (IntKind.i64.wrap (x1.2.2 + 1))), h, ltS m2, ?_⟩; exact ca_0
    · refine aEx ?_; refine aSR ?_; intro _; refine dr ?_; refine aRt ?_; intro _; obtain rfl := inj1 h; exact ca_0
def M_b_Small_L1 (a0 : GTask) : Nat → Int → Option (Unit ⊕ Bool)
  | 0, _ => none
  | k15 + 1, v14 =>
    sel (decide (v14 < ((a0.Ops.map cGOp).length : Int)))
     (ix a0.Ops v14 (fun y16 =>
       sel (decide (((y16.Effs.map cGEffect).length : Int) > 8))
        (some (.inr false))
        (M_b_Small_L1 a0 k15 (IntKind.i64.wrap (v14 + 1)))))
     (some (.inl ()))
def M_b_Small (a0 : GTask) : Option (Bool) :=
  ob1 (sel (decide (((a0.Vars.map cI).length : Int) > 12))
    (some (.inr false))
    (sel (decide (((a0.Ops.map cGOp).length : Int) > 20))
      (some (.inr false))
      (some (.inl ()))) : Option (Unit ⊕ Bool))
   (osum
   (fun _ => ob1 (M_b_Small_L1 a0 ((((a0.Ops.map cGOp).length : Int)).toNat + 1) 0 : Option (Unit ⊕ Bool))
      (osum
      (fun _ => ob1 (M_b_Good a0) (fun z17 =>
         sel z17
          (ob1 (M_b_Many a0.Vars 512) (fun z18 =>
            some (decide (z18 ≤ 512))))
          (some false)))
      (fun r9 => some r9)))
   (fun r1 => some r1))
theorem A_b_Small (a0 : GTask) {r1 : Bool} (h : M_b_Small a0 = some r1) : ACall cx 66 [.agg [.sl 1 (a0.Vars.map cI), .sl 1 (a0.Init.map cI), .sl 2 (a0.Goal.map cF), .sl 4 (a0.Ops.map cGOp)]] (.c (.bool r1)) := by
  refine aOf Tryz.func66 rfl (by decide) rfl (Nat.le_of_ble_eq_true rfl) ?_; intro _; unfold M_b_Small at h; refine aSR ?_; intro _; refine dr ?_; obtain ⟨o1, h, hK2⟩ := ob1_ok h; refine awp_cut (α := Unit) (fun _ => mkS 35 [(1, .ptr 1 0 0 0)] [(1, ⟨26, 4, true, [[.sl 1 (a0.Vars.map cI), .sl 1 (a0.Init.map cI), .sl 2 (a0.Goal.map cF), .sl 4 (a0.Ops.map cGOp)]]⟩)]) (fun v => o1 = (.inl v)) ?_ ?_
  · refine aSR ?_; intro _; refine spf h (fun c3 h => ?_) (fun c3 h => ?_)
    · intro _; refine dr ?_; refine aCd ?_; intro _; refine spl h (fun c4 h => ?_) (fun c4 h => ?_)
      · refine aSR ?_; intro _; refine dr ?_; refine aRt ?_; have j5 := Option.some.inj h; subst j5; replace h := (osum_r hK2); intro _; obtain rfl := inj1 h; exact ca_0
      · refine aSk ?_; refine ⟨(), (Option.some.inj h).symm, ?_⟩; exact ca_0
    · intro _; refine dr ?_; refine aCd ?_; intro _; refine litT ?_; refine aSR ?_; intro _; refine dr ?_; refine aRt ?_; have j6 := Option.some.inj h; subst j6; replace h := (osum_r hK2); intro _; obtain rfl := inj1 h; exact ca_0
  · rintro _ ho; have ho := ho.symm; subst ho; intro _; replace h := (osum_l hK2); obtain ⟨o7, h, hK8⟩ := ob1_ok h; refine awp_cut (α := Unit) (fun _ => mkS 35 [(1, .ptr 1 0 0 0)] [(1, ⟨26, 4, true, [[.sl 1 (a0.Vars.map cI), .sl 1 (a0.Init.map cI), .sl 2 (a0.Goal.map cF), .sl 4 (a0.Ops.map cGOp)]]⟩)]) (fun v => o7 = (.inl v)) ?_ ?_
    · refine aSR ?_; intro _; refine dr ?_; refine aBk ?_; refine awp_loop (α := Nat × Int) (fun x => mkS 35 [(1, .ptr 1 0 0 0), (16, .sl 4 (a0.Ops.map cGOp)), (17, .c (.int .i64 ((a0.Ops.map cGOp).length : Int))), (18, .c (.int .i64 x.2))] [(1, ⟨26, 4, true, [[.sl 1 (a0.Vars.map cI), .sl 1 (a0.Init.map cI), .sl 2 (a0.Goal.map cF), .sl 4 (a0.Ops.map cGOp)]]⟩)]) (fun x => M_b_Small_L1 a0 x.1 x.2 = some o7) (fun x => x.1) ((((a0.Ops.map cGOp).length : Int)).toNat + 1, 0) h ?_ ?_
      · exact ca_0
      · intro x9 h; intro _; obtain ⟨k15, m10, h⟩ := succ_of (f := fun n => M_b_Small_L1 a0 n x9.2) rfl h; replace h : M_b_Small_L1 a0 (k15 + 1) x9.2 = some o7 := h; rw [M_b_Small_L1] at h; refine aSR ?_; intro _; refine dr ?_; refine aSq ?_; refine aCd ?_; intro _; refine spl h (fun c11 h => ?_) (fun c11 h => ?_)
        · refine aSk ?_; refine aSq ?_; refine aBk ?_; refine aSR ?_; intro _; obtain ⟨y16, w12, q13, h⟩ := ix_ok h; refine Exists.intro (cGOp y16) (And.intro (map_at' w12) ?_); intro _; refine pr ?_; refine dr ?_; refine aSR ?_; intro _; refine dr ?_; refine aCd ?_; intro _; refine spl h (fun c14 h => ?_) (fun c14 h => ?_)
          · refine aSR ?_; intro _; refine dr ?_; refine aRt ?_; have j15 := Option.some.inj h; subst j15; replace h := (osum_r hK8); intro _; obtain rfl := inj1 h; exact ca_0
          · refine aSk ?_; refine aRg ?_; intro _; refine dr ?_; refine ⟨(k15, (IntKind.i64.wrap (x9.2 + 1))), h, ltS m10, ?_⟩; exact ca_0
        · refine aEx ?_; refine ⟨(), (Option.some.inj h).symm, ?_⟩; exact ca_0
    · rintro _ ho; have ho := ho.symm; subst ho; intro _; replace h := (osum_l hK8); refine aSR ?_; intro _; obtain ⟨z17, u16, h⟩ := ob1_ok h; refine cl rfl (A_b_Good a0 u16) ?_; intro _; refine spl h (fun c17 h => ?_) (fun c17 h => ?_)
      · intro _; obtain ⟨z18, u18, h⟩ := ob1_ok h; refine cl rfl (A_b_Many a0.Vars 512 u18) ?_; intro _; refine dr ?_; refine aRt ?_; intro _; obtain rfl := inj1 h; exact ca_0
      · intro _; refine dr ?_; refine aRt ?_; intro _; obtain rfl := inj1 h; exact ca_0
def M_b_Tame_L1 (a0 : GTask) : Nat → Int → Option (Unit ⊕ Bool)
  | 0, _ => none
  | k14 + 1, v13 =>
    sel (decide (v13 < ((a0.Vars.map cI).length : Int)))
     (ix a0.Vars v13 (fun y15 =>
       sel (decide (y15 < 2))
        (some (.inr false))
        (sel (decide (y15 > 4))
          (some (.inr false))
          (M_b_Tame_L1 a0 k14 (IntKind.i64.wrap (v13 + 1))))))
     (some (.inl ()))
def M_b_Tame_L2 (y125 : GOp) : Nat → Int → Int → Option (Int ⊕ Bool)
  | 0, _, _ => none
  | k143 + 1, v141, v142 =>
    sel (decide (v142 < ((y125.Effs.map cGEffect).length : Int)))
     (ix y125.Effs v142 (fun y144 =>
       sel (decide (((y144.When.map cF).length : Int) > 2))
        (some (.inr false))
        (sel (decide (((y144.When.map cF).length : Int) > 0))
          (M_b_Tame_L2 y125 k143 (IntKind.i64.wrap (v141 + 1)) (IntKind.i64.wrap (v142 + 1)))
          (M_b_Tame_L2 y125 k143 v141 (IntKind.i64.wrap (v142 + 1))))))
     (some (.inl v141))
def M_b_Tame_L3 (a0 : GTask) : Nat → Int → Option (Bool)
  | 0, _ => none
  | k102 + 1, v101 =>
    sel (decide (v101 < ((a0.Ops.map cGOp).length : Int)))
     (ob1 (ix a0.Ops v101 (fun y125 =>
        ob1 (M_b_Tame_L2 y125 ((((y125.Effs.map cGEffect).length : Int)).toNat + 1) 0 0 : Option (Int ⊕ Bool))
         (osum
         (fun v134 => sel (decide (v134 > 3))
            (some (.inr false))
            (some (.inl ())))
         (fun r135 => some (.inr r135)))) : Option (Unit ⊕ Bool))
       (osum
       (fun _ => M_b_Tame_L3 a0 k102 (IntKind.i64.wrap (v101 + 1)))
       (fun r123 => some r123)))
     (some true)
def M_b_Tame (a0 : GTask) : Option (Bool) :=
  ob1 (M_b_Small a0) (fun z1 =>
   sel (!z1)
    (some false)
    (ob1 (M_b_Tame_L1 a0 ((((a0.Vars.map cI).length : Int)).toNat + 1) 0 : Option (Unit ⊕ Bool))
      (osum
      (fun _ => M_b_Tame_L3 a0 ((((a0.Ops.map cGOp).length : Int)).toNat + 1) 0)
      (fun r8 => some r8))))
theorem A_b_Tame (a0 : GTask) {r1 : Bool} (h : M_b_Tame a0 = some r1) : ACall cx 34 [.agg [.sl 1 (a0.Vars.map cI), .sl 1 (a0.Init.map cI), .sl 2 (a0.Goal.map cF), .sl 4 (a0.Ops.map cGOp)]] (.c (.bool r1)) := by
  refine aOf Tryz.func34 rfl (by decide) rfl (Nat.le_of_ble_eq_true rfl) ?_; intro _; unfold M_b_Tame at h; refine aSR ?_; intro _; refine dr ?_; refine aSq ?_; refine aSR ?_; intro _; obtain ⟨z1, u1, h⟩ := ob1_ok h; refine cl rfl (A_b_Small a0 u1) ?_; intro _; refine dr ?_; refine aCd ?_; intro _; refine spl h (fun c2 h => ?_) (fun c2 h => ?_)
  · refine aSR ?_; intro _; refine dr ?_; refine aRt ?_; intro _; obtain rfl := inj1 h; exact ca_0
  · refine aSk ?_; obtain ⟨o3, h, hK4⟩ := ob1_ok h; refine awp_cut (α := Unit) (fun _ => mkS 55 [(1, .ptr 1 0 0 0)] [(1, ⟨26, 4, true, [[.sl 1 (a0.Vars.map cI), .sl 1 (a0.Init.map cI), .sl 2 (a0.Goal.map cF), .sl 4 (a0.Ops.map cGOp)]]⟩)]) (fun v => o3 = (.inl v)) ?_ ?_
    · refine aSR ?_; intro _; refine dr ?_; refine aBk ?_; refine awp_loop (α := Nat × Int) (fun x => mkS 55 [(1, .ptr 1 0 0 0), (14, .sl 1 (a0.Vars.map cI)), (15, .c (.int .i64 ((a0.Vars.map cI).length : Int))), (16, .c (.int .i64 x.2))] [(1, ⟨26, 4, true, [[.sl 1 (a0.Vars.map cI), .sl 1 (a0.Init.map cI), .sl 2 (a0.Goal.map cF), .sl 4 (a0.Ops.map cGOp)]]⟩)]) (fun x => M_b_Tame_L1 a0 x.1 x.2 = some o3) (fun x => x.1) ((((a0.Vars.map cI).length : Int)).toNat + 1, 0) h ?_ ?_
      · exact ca_0
      · intro x5 h; intro _; obtain ⟨k14, m6, h⟩ := succ_of (f := fun n => M_b_Tame_L1 a0 n x5.2) rfl h; replace h : M_b_Tame_L1 a0 (k14 + 1) x5.2 = some o3 := h; rw [M_b_Tame_L1] at h; refine aSR ?_; intro _; refine dr ?_; refine aSq ?_; refine aCd ?_; intro _; refine spl h (fun c7 h => ?_) (fun c7 h => ?_)
        · refine aSk ?_; refine aSq ?_; refine aBk ?_; refine aSR ?_; intro _; obtain ⟨y15, w8, q9, h⟩ := ix_ok h; refine Exists.intro (cI y15) (And.intro (map_at' w8) ?_); intro _; refine pr ?_; refine dr ?_; refine aSR ?_; intro _; refine spf h (fun c10 h => ?_) (fun c10 h => ?_)
          · intro _; refine dr ?_; refine aCd ?_; intro _; refine spl h (fun c11 h => ?_) (fun c11 h => ?_)
            · refine aSR ?_; intro _; refine dr ?_; refine aRt ?_; have j12 := Option.some.inj h; subst j12; replace h := (osum_r hK4); intro _; obtain rfl := inj1 h; exact ca_0
            · refine aSk ?_; refine aRg ?_; intro _; refine dr ?_; refine ⟨(k14, (IntKind.i64.wrap (x5.2 + 1))), h, ltS m6, ?_⟩; exact ca_0
          · intro _; refine dr ?_; refine aCd ?_; intro _; refine litT ?_; refine aSR ?_; intro _; refine dr ?_; refine aRt ?_; have j13 := Option.some.inj h; subst j13; replace h := (osum_r hK4); intro _; obtain rfl := inj1 h; exact ca_0
        · refine aEx ?_; refine ⟨(), (Option.some.inj h).symm, ?_⟩; exact ca_0
    · rintro _ ho; have ho := ho.symm; subst ho; intro _; replace h := (osum_l hK4); refine aSq ?_; refine aSR ?_; intro _; refine dr ?_; refine aBk ?_; refine awp_loop (α := Nat × Int) (fun x => mkS 55 [(28, .sl 4 (a0.Ops.map cGOp)), (29, .c (.int .i64 ((a0.Ops.map cGOp).length : Int))), (30, .c (.int .i64 x.2))] []) (fun x => M_b_Tame_L3 a0 x.1 x.2 = some r1) (fun x => x.1) ((((a0.Ops.map cGOp).length : Int)).toNat + 1, 0) h ?_ ?_
      · exact ca_0
      · intro x14 h; intro _; obtain ⟨k102, m15, h⟩ := succ_of (f := fun n => M_b_Tame_L3 a0 n x14.2) rfl h; replace h : M_b_Tame_L3 a0 (k102 + 1) x14.2 = some r1 := h; rw [M_b_Tame_L3] at h; refine aSR ?_; intro _; refine dr ?_; refine aSq ?_; refine aCd ?_; intro _; refine spl h (fun c16 h => ?_) (fun c16 h => ?_)
        · refine aSk ?_; obtain ⟨o17, h, hK18⟩ := ob1_ok h; refine awp_cut (α := Unit) (fun _ => mkS 55 [(28, .sl 4 (a0.Ops.map cGOp)), (29, .c (.int .i64 ((a0.Ops.map cGOp).length : Int))), (30, .c (.int .i64 x14.2))] []) (fun v => o17 = (.inl v)) ?_ ?_
          · refine aBk ?_; refine aSR ?_; intro _; obtain ⟨y125, w19, q20, h⟩ := ix_ok h; refine Exists.intro (cGOp y125) (And.intro (map_at' w19) ?_); intro _; refine pr ?_; refine dr ?_; refine aSR ?_; intro _; refine dr ?_; obtain ⟨o21, h, hK22⟩ := ob1_ok h; refine awp_cut (α := Int) (fun v134 => mkS 55 [(7, .c (.int .i64 v134)), (28, .sl 4 (a0.Ops.map cGOp)), (29, .c (.int .i64 ((a0.Ops.map cGOp).length : Int))), (30, .c (.int .i64 x14.2))] []) (fun v => o21 = (.inl v)) ?_ ?_
            · refine aSR ?_; intro _; refine dr ?_; refine aBk ?_; refine awp_loop (α := Nat × Int × Int) (fun x => mkS 55 [(7, .c (.int .i64 x.2.1)), (28, .sl 4 (a0.Ops.map cGOp)), (29, .c (.int .i64 ((a0.Ops.map cGOp).length : Int))), (30, .c (.int .i64 x14.2)), (35, .sl 3 (y125.Effs.map cGEffect)), (36, .c (.int .i64 ((y125.Effs.map cGEffect).length : Int))), (37, .c (.int .i64 x.2.2))] []) (fun x => M_b_Tame_L2 y125 x.1 x.2.1 x.2.2 = some o21) (fun x => x.1) ((((y125.Effs.map cGEffect).length : Int)).toNat + 1, 0, 0) h ?_ ?_
              · exact ca_0
              · intro x23 h; intro _; obtain ⟨k143, m24, h⟩ := succ_of (f := fun n => M_b_Tame_L2 y125 n x23.2.1 x23.2.2) rfl h; replace h : M_b_Tame_L2 y125 (k143 + 1) x23.2.1 x23.2.2 = some o21 := h; rw [M_b_Tame_L2] at h; refine aSR ?_; intro _; refine dr ?_; refine aSq ?_; refine aCd ?_; intro _; refine spl h (fun c25 h => ?_) (fun c25 h => ?_)
                · refine aSk ?_; refine aSq ?_; refine aBk ?_; refine aSR ?_; intro _; obtain ⟨y144, w26, q27, h⟩ := ix_ok h; refine Exists.intro (cGEffect y144) (And.intro (map_at' w26) ?_); intro _; refine pr ?_; refine dr ?_; refine aSq ?_; refine aSR ?_; intro _; refine dr ?_; refine aCd ?_; intro _; refine spl h (fun c28 h => ?_) (fun c28 h => ?_)
                  · refine aSR ?_; intro _; refine dr ?_; refine aRt ?_; have j29 := Option.some.inj h; subst j29; replace h := (osum_r hK22); have j30 := Option.some.inj h; subst j30; replace h := (osum_r hK18); intro _; obtain rfl := inj1 h; exact ca_0
                  · refine aSk ?_; refine aSR ?_; intro _; refine dr ?_; refine aCd ?_; intro _; refine spl h (fun c31 h => ?_) (fun c31 h => ?_)
                    · refine aRg ?_; intro _; refine dr ?_; refine aRg ?_; intro _; refine dr ?_; refine ⟨(k143, (IntKind.i64.wrap (x23.2.1 + 1)), (IntKind.i64.wrap (x23.2.2 + 1))), h, ltS m24, ?_⟩; exact ca_0
                    · refine aSk ?_; refine aRg ?_; intro _; refine dr ?_; refine ⟨(k143, x23.2.1, (IntKind.i64.wrap (x23.2.2 + 1))), h, ltS m24, ?_⟩; exact ca_0
                · refine aEx ?_; refine ⟨x23.2.1, (Option.some.inj h).symm, ?_⟩; exact ca_0
            · rintro v134 ho; have ho := ho.symm; subst ho; intro _; replace h := (osum_l hK22); refine aSR ?_; intro _; refine dr ?_; refine aCd ?_; intro _; refine spl h (fun c32 h => ?_) (fun c32 h => ?_)
              · refine aSR ?_; intro _; refine dr ?_; refine aRt ?_; have j33 := Option.some.inj h; subst j33; replace h := (osum_r hK18); intro _; obtain rfl := inj1 h; exact ca_0
              · refine aSk ?_; refine ⟨(), (Option.some.inj h).symm, ?_⟩; exact ca_0
          · rintro _ ho; have ho := ho.symm; subst ho; intro _; replace h := (osum_l hK18); refine aRg ?_; intro _; refine dr ?_; refine ⟨(k102, (IntKind.i64.wrap (x14.2 + 1))), h, ltS m15, ?_⟩; exact ca_0
        · refine aEx ?_; refine aSR ?_; intro _; refine dr ?_; refine aRt ?_; intro _; obtain rfl := inj1 h; exact ca_0
def M_b_Num (a0 : Er) : Option (Int) :=
  erM a0
   (some 0)
   (fun e1 => some e1)
theorem A_b_Num (a0 : Er) {r1 : Int} (h : M_b_Num a0 = some r1) : ACall cx 23 [eA a0] (.c (.int .i64 r1)) := by
  refine aOf Tryz.func23 rfl (by decide) rfl (Nat.le_of_ble_eq_true rfl) ?_; intro _; unfold M_b_Num at h; refine aSR ?_; intro _; refine dr ?_; refine aSq ?_; refine aSq ?_; rcases a0 with _ | e1
  · replace h := erM_nil h; refine aRg ?_; intro _; refine dr ?_; refine aCd ?_; intro _; refine litT ?_; refine aSR ?_; intro _; refine dr ?_; refine aRt ?_; intro _; obtain rfl := inj1 h; exact ca_0
  · replace h := erM_no h; refine aRg ?_; intro _; refine dr ?_; refine aCd ?_; intro _; refine litF ?_; refine aSk ?_; refine aSq ?_; refine aSR ?_; intro _; refine ⟨_, lf_assert rfl (Nat.le_of_ble_eq_true rfl) rfl asErrno, ?_⟩; intro _; refine dr ?_; refine aSR ?_; intro _; refine dr ?_; refine aCd ?_; intro _; refine litT ?_; refine aSR ?_; intro _; refine dr ?_; refine aRt ?_; intro _; obtain rfl := inj1 h; exact ca_0
def M_b_Is (a0 : Er) (a1 : Int) : Option (Bool) :=
  erM a0
   (some false)
   (fun e1 => ob1 (M_b_Num (Er.no e1)) (fun z2 =>
     some (z2 == a1)))
theorem A_b_Is (a0 : Er) (a1 : Int) {r1 : Bool} (h : M_b_Is a0 a1 = some r1) : ACall cx 18 [eA a0, .c (.int .i64 a1)] (.c (.bool r1)) := by
  refine aOf Tryz.func18 rfl (by decide) rfl (Nat.le_of_ble_eq_true rfl) ?_; intro _; unfold M_b_Is at h; refine aSR ?_; intro _; refine dr ?_; refine aSq ?_; rcases a0 with _ | e1
  · replace h := erM_nil h; refine aRg ?_; intro _; refine litF ?_; intro _; refine dr ?_; refine aRt ?_; intro _; obtain rfl := inj1 h; exact ca_0
  · replace h := erM_no h; refine aRg ?_; intro _; refine litT ?_; intro _; obtain ⟨z2, u1, h⟩ := ob1_ok h; refine cl rfl (A_b_Num (Er.no e1) u1) ?_; intro _; refine dr ?_; refine aRt ?_; intro _; obtain rfl := inj1 h; exact ca_0
def M_task_Holds_L1 (a0 : List Fact) (a1 : List Int) : Nat → Int → Option (Bool)
  | 0, _ => none
  | k7 + 1, v6 =>
    sel (decide (v6 < ((a0.map cF).length : Int)))
     (ix a0 v6 (fun y8 =>
       sel (decide (y8.1 < 0))
        (some false)
        (sel (decide (y8.1 ≥ ((a1.map cI).length : Int)))
          (some false)
          (ix a1 y8.1 (fun y9 =>
            sel (y9 != y8.2)
             (some false)
             (M_task_Holds_L1 a0 a1 k7 (IntKind.i64.wrap (v6 + 1))))))))
     (some true)
def M_task_Holds (a0 : List Fact) (a1 : List Int) : Option (Bool) :=
  M_task_Holds_L1 a0 a1 ((((a0.map cF).length : Int)).toNat + 1) 0
theorem A_task_Holds (a0 : List Fact) (a1 : List Int) {r1 : Bool} (h : M_task_Holds a0 a1 = some r1) : ACall cx 43 [.sl 2 (a0.map cF), .sl 1 (a1.map cI)] (.c (.bool r1)) := by
  refine aOf Tryz.func43 rfl (by decide) rfl (Nat.le_of_ble_eq_true rfl) ?_; intro _; unfold M_task_Holds at h; refine aSR ?_; intro _; refine dr ?_; refine aSq ?_; refine aSR ?_; intro _; refine dr ?_; refine aBk ?_; refine awp_loop (α := Nat × Int) (fun x => mkS 34 [(1, .sl 1 (a1.map cI)), (7, .sl 2 (a0.map cF)), (8, .c (.int .i64 ((a0.map cF).length : Int))), (9, .c (.int .i64 x.2))] []) (fun x => M_task_Holds_L1 a0 a1 x.1 x.2 = some r1) (fun x => x.1) ((((a0.map cF).length : Int)).toNat + 1, 0) h ?_ ?_
  · exact ca_0
  · intro x1 h; intro _; obtain ⟨k7, m2, h⟩ := succ_of (f := fun n => M_task_Holds_L1 a0 a1 n x1.2) rfl h; replace h : M_task_Holds_L1 a0 a1 (k7 + 1) x1.2 = some r1 := h; rw [M_task_Holds_L1] at h; refine aSR ?_; intro _; refine dr ?_; refine aSq ?_; refine aCd ?_; intro _; refine spl h (fun c3 h => ?_) (fun c3 h => ?_)
    · refine aSk ?_; refine aSq ?_; refine aBk ?_; refine aSR ?_; intro _; obtain ⟨y8, w4, q5, h⟩ := ix_ok h; refine Exists.intro (cF y8) (And.intro (map_at' w4) ?_); intro _; refine pr ?_; refine dr ?_; refine aSR ?_; intro _; refine spf h (fun c6 h => ?_) (fun c6 h => ?_)
      · intro _; refine spf h (fun c7 h => ?_) (fun c7 h => ?_)
        · intro _; obtain ⟨y9, w8, q9, h⟩ := ix_ok h; refine Exists.intro (cI y9) (And.intro (map_at' w8) ?_); intro _; refine pr ?_; refine dr ?_; refine aCd ?_; intro _; refine spl h (fun c10 h => ?_) (fun c10 h => ?_)
          · refine aSR ?_; intro _; refine dr ?_; refine aRt ?_; intro _; obtain rfl := inj1 h; exact ca_0
          · refine aSk ?_; refine aRg ?_; intro _; refine dr ?_; refine ⟨(k7, (IntKind.i64.wrap (x1.2 + 1))), h, ltS m2, ?_⟩; exact ca_0
        · intro _; refine dr ?_; refine aCd ?_; intro _; refine litT ?_; refine aSR ?_; intro _; refine dr ?_; refine aRt ?_; intro _; obtain rfl := inj1 h; exact ca_0
      · intro _; refine dr ?_; refine aCd ?_; intro _; refine litT ?_; refine aSR ?_; intro _; refine dr ?_; refine aRt ?_; intro _; obtain rfl := inj1 h; exact ca_0
    · refine aEx ?_; refine aSR ?_; intro _; refine dr ?_; refine aRt ?_; intro _; obtain rfl := inj1 h; exact ca_0
end Go.Proofs.YtohjegemooakpaaGreat.Am
/- Plain laws of texts: split at a byte, cut at a byte, words, and words for models. -/
namespace Go.Proofs.YtohjegemooakpaaGreat.Am
open Go.RowKit

/-- the bytes of a text -/
abbrev bl (s : ByteArray) : List UInt8 := s.data.toList
theorem bl_len (s : ByteArray) : (bl s).length = s.size := (Lib.size_eq s).symm
theorem byt_bl (s : ByteArray) (n : Nat) (h : n < s.size) : byt s (n : Int) = (((bl s)[n]'(by rw [bl_len]; exact h)).toNat : Int) := by
  show ((s.data.getD ((n : Int)).toNat 0).toNat : Int) = _
  have h2 : n < s.data.size := h
  simp only [Int.toNat_natCast, Array.getD_eq_getD_getElem?, Array.getElem?_eq_getElem h2]
  simp

section
variable {α β γ δ : Type}
theorem sel_dec {p : Prop} [Decidable p] {x y : Option α} : sel (decide p) x y = if p then x else y := by
  unfold sel
  by_cases h : p <;> simp [h]
theorem sel_tt {x y : Option α} : sel true x y = x := rfl
theorem sel_ff {x y : Option α} : sel false x y = y := rfl
theorem grd_t {p : Prop} [Decidable p] {x : Option α} (h : p) : grd p x = x := if_pos h
theorem ixn_at {l : List α} {n : Nat} {y : α} {k : α → Option β} (h : l[n]? = some y) : ixn l n k = k y := by rw [ixn, h]
theorem ix_at {l : List α} {n : Nat} {y : α} {k : α → Option β} (h : l[n]? = some y) : ix l (n : Int) k = k y := by
  rw [ix, Int.toNat_natCast, ixn_at h, grd_t (Int.natCast_nonneg n)]
theorem ob1_some {a : α} {k : α → Option β} : ob1 (some a) k = k a := rfl
theorem ob2_some {a : α} {b : β} {k : α → β → Option γ} : ob2 (some (a, b)) k = k a b := rfl
theorem ob3_some {a : α} {b : β} {c : γ} {k : α → β → γ → Option δ} : ob3 (some (a, b, c)) k = k a b c := rfl
theorem osum_inl {f : α → Option γ} {g : β → Option γ} {a : α} : osum f g (.inl a) = f a := rfl
theorem osum_inr {f : α → Option γ} {g : β → Option γ} {b : β} : osum f g (.inr b) = g b := rfl
theorem w64 {z : Int} (h1 : -9223372036854775808 ≤ z) (h2 : z ≤ 9223372036854775807) : IntKind.i64.wrap z = z := wrap_eq h1 h2
theorem w64s {n : Nat} (h : n < 9223372036854775807) : IntKind.i64.wrap ((n : Int) + 1) = ((n + 1 : Nat) : Int) := by rw [w64 (by omega) (by omega)]; rfl
theorem drop_at {l : List α} {n : Nat} (h : n < l.length) : ∃ y, l[n]? = some y ∧ l.drop n = y :: l.drop (n + 1) := ⟨l[n], List.getElem?_eq_getElem h, List.drop_eq_getElem_cons h⟩
end
end Go.Proofs.YtohjegemooakpaaGreat.Am
/- Range loops as recursions. -/
namespace Go.Proofs.YtohjegemooakpaaGreat.Am
section
variable {α β γ : Type}
def ixv (y : α) (k : α → Option γ) : Option γ := k y
def Rg (B : α → Int → β → (β → Option γ) → Option γ) (E : β → Option γ) : List α → Int → β → Option γ
  | [], _, v => E v
  | y :: r, i, v => B y i v (Rg B E r (i + 1))
def Rn (B : Int → β → (β → Option γ) → Option γ) (E : β → Option γ) : Nat → Int → β → Option γ
  | 0, _, v => E v
  | m + 1, i, v => B i v (Rn B E m (i + 1))
theorem lt_some {l : List α} {n : Nat} {y : α} (h : l[n]? = some y) : n < l.length := (List.getElem?_eq_some_iff.1 h).1
theorem decide_lt {n m : Nat} (h : n < m) : decide ((n : Int) < (m : Int)) = true := by simp; omega
theorem decide_ge {n : Nat} : decide ((n : Int) < (n : Int)) = false := by simp
theorem rg_of {l : List α} {L : Nat → Int → β → Option γ} {B : α → Int → β → (β → Option γ) → Option γ} {E : β → Option γ} (hl : l.length < 9223372036854775807)
    (hs : ∀ (k n : Nat) (v : β) (y : α), l[n]? = some y → n < 9223372036854775807 → L (k + 1) n v = B y n v (fun v' => L k ((n + 1 : Nat) : Int) v')) (he : ∀ (k : Nat) (v : β), L (k + 1) (l.length : Nat) v = E v) :
    ∀ (k n : Nat) (v : β), n ≤ l.length → l.length < k + n → L k n v = Rg B E (l.drop n) n v
  | 0, n, v, h1, h2 => by omega
  | k + 1, n, v, h1, h2 => by
    rcases Nat.lt_or_ge n l.length with hn | hn
    · obtain ⟨y, hy, hd⟩ := drop_at hn
      rw [hs k n v y hy (by omega), hd, Rg]
      congr 1
      funext v'
      exact rg_of hl hs he k (n + 1) v' hn (by omega)
    · obtain rfl : n = l.length := by omega
      rw [he, List.drop_length, Rg]
theorem rn_of {m : Nat} {L : Nat → Int → β → Option γ} {B : Int → β → (β → Option γ) → Option γ} {E : β → Option γ} (hl : m < 9223372036854775807)
    (hs : ∀ (k n : Nat) (v : β), n < m → L (k + 1) n v = B n v (fun v' => L k ((n + 1 : Nat) : Int) v')) (he : ∀ (k : Nat) (v : β), L (k + 1) (m : Nat) v = E v) :
    ∀ (k n : Nat) (v : β), n ≤ m → m < k + n → L k n v = Rn B E (m - n) n v
  | 0, n, v, h1, h2 => by omega
  | k + 1, n, v, h1, h2 => by
    rcases Nat.lt_or_ge n m with hn | hn
    · rw [hs k n v hn, show m - n = (m - (n + 1)) + 1 from by omega, Rn]
      congr 1
      funext v'
      exact rn_of hl hs he k (n + 1) v' hn (by omega)
    · obtain rfl : n = m := by omega
      rw [he, Nat.sub_self, Rn]
theorem rg_e2 {l : List α} {f : α → List AV} {L : Nat → Int → β → Option γ} {B : α → Int → β → (β → Option γ) → Option γ} {E : β → Option γ} (hl : l.length < 9223372036854775807)
    (hs : ∀ (k n : Nat) (v : β) (y : α), l[n]? = some y → n < l.length → IntKind.i64.wrap ((n : Int) + 1) = ((n + 1 : Nat) : Int) → L (k + 1) n v = B y n v (fun v' => L k ((n + 1 : Nat) : Int) v')) (he : ∀ (k : Nat) (v : β), L (k + 1) (l.length : Nat) v = E v) (v : β) :
    L (((l.map f).length : Int).toNat + 1) 0 v = Rg B E l 0 v := by
  have h := rg_of (L := L) (B := B) (E := E) hl (fun k n v y hy hn => hs k n v y hy (lt_some hy) (w64s hn)) he (l.length + 1) 0 v (Nat.zero_le _) (by omega)
  rw [List.length_map, Int.toNat_natCast]
  exact h
theorem rg_e1 {l : List α} {f : α → List AV} {L : Nat → Int → β → Option γ} {B : α → Int → β → (β → Option γ) → Option γ} {E : β → Option γ} (hl : l.length < 9223372036854775807)
    (hs : ∀ (k : Nat) (i : Int) (v : β), L (k + 1) i v = sel (decide (i < ((l.map f).length : Int))) (ix l i fun y => B y i v fun v' => L k (IntKind.i64.wrap (i + 1)) v') (E v)) (v : β) :
    L (((l.map f).length : Int).toNat + 1) 0 v = Rg B E l 0 v :=
  rg_e2 hl (fun k n v y hy hn h2 => by rw [hs, List.length_map, decide_lt hn, sel_tt, ix_at hy, h2]) (fun k v => by rw [hs, List.length_map, decide_ge, sel_ff]) v
theorem rn_e {m : Nat} {z : Int} {L : Nat → Int → β → Option γ} {B : Int → β → (β → Option γ) → Option γ} {E : β → Option γ} (hm : z = (m : Int)) (hl : m < 9223372036854775807)
    (hs : ∀ (k : Nat) (i : Int) (v : β), L (k + 1) i v = sel (decide (i < z)) (B i v fun v' => L k (IntKind.i64.wrap (i + 1)) v') (E v)) (v : β) :
    L (z.toNat + 1) 0 v = Rn B E m 0 v := by
  subst hm
  have h := rn_of (L := L) (B := B) (E := E) hl (fun k n v hn => by rw [hs, decide_lt hn, sel_tt, w64s (Nat.lt_trans hn hl)]) (fun k v => by rw [hs, decide_ge, sel_ff]) (m + 1) 0 v (Nat.zero_le _) (by omega)
  rw [Int.toNat_natCast]
  exact h
end
end Go.Proofs.YtohjegemooakpaaGreat.Am
/- Range loops of the models as recursions. -/
namespace Go.Proofs.YtohjegemooakpaaGreat.Am
end Go.Proofs.YtohjegemooakpaaGreat.Am
/- Range loops of the models as recursions. -/
namespace Go.Proofs.YtohjegemooakpaaGreat.Am
def M_task_conditions_L1_B (_ : GOp) (_y65 : GEffect) (_ : Int) : ((List (List Fact))) → (((List (List Fact))) → Option (List (List Fact))) → Option (List (List Fact)) := fun v63 rc => ixv _y65 (fun y65 =>
       grd ((v63.length + 1) * 24 ≤ 140737488355328) (rc ((v63 ++ [y65.When]))))
def M_task_conditions_L1_E (_ : GOp) : ((List (List Fact))) → Option (List (List Fact)) := fun v63 => some v63
theorem M_task_conditions_L1_eq (y57 : GOp) (v63 : List (List Fact)) (hl : y57.Effs.length < 9223372036854775807) : M_task_conditions_L1 y57 (((y57.Effs.map cGEffect).length : Int).toNat + 1) 0 v63 = Rg (M_task_conditions_L1_B y57) (M_task_conditions_L1_E y57) y57.Effs 0 v63 := rg_e1 (L := fun k i v63 => M_task_conditions_L1 y57 k i v63) hl (fun _ _ _ => rfl) v63
def M_task_conditions_L2_B (_ : GTask) (_y57 : GOp) (_ : Int) : ((List (List Fact))) → (((List (List Fact))) → Option (List (List Fact))) → Option (List (List Fact)) := fun v44 rc => ob1 (ixv _y57 (fun y57 =>
        grd ((v44.length + 1) * 24 ≤ 140737488355328) (M_task_conditions_L1 y57 ((((y57.Effs.map cGEffect).length : Int)).toNat + 1) 0 (v44 ++ [y57.Pre]))) : Option (List (List Fact)))
       (fun v55 => rc (v55))
def M_task_conditions_L2_E (_ : GTask) : ((List (List Fact))) → Option (List (List Fact)) := fun v44 => grd (v44.length ≤ 140737488355328) (some v44)
theorem M_task_conditions_L2_eq (a0 : GTask) (v44 : List (List Fact)) (hl : a0.Ops.length < 9223372036854775807) : M_task_conditions_L2 a0 (((a0.Ops.map cGOp).length : Int).toNat + 1) 0 v44 = Rg (M_task_conditions_L2_B a0) (M_task_conditions_L2_E a0) a0.Ops 0 v44 := rg_e2 (L := fun k i v44 => M_task_conditions_L2 a0 k i v44) hl (fun k n p y hy h1 h2 => by first | (simp only [M_task_conditions_L2, M_task_conditions_L2_B, List.length_map, decide_lt h1, sel, ix_at hy, ixv, h2]; done) | (simp only [List.length_map] at h1 hy; (simp only [M_task_conditions_L2, M_task_conditions_L2_B, List.length_map, decide_lt h1, sel, ix_at hy, ixv, h2]; done))) (fun k p => by simp only [M_task_conditions_L2, M_task_conditions_L2_E, List.length_map, decide_ge, sel]) v44
def M_s_IndexFunc_Fact_L1_B (_ : List (List Fact)) (a1 : (List Fact) → Option Bool) (_y8 : List Fact) (v6 : Int) : Unit → (Unit → Option (Int)) → Option (Int) := fun _ rc => ixv _y8 (fun y8 =>
       ob1 (a1 y8) (fun z9 =>
        sel z9
         (some v6)
         (rc ())))
def M_s_IndexFunc_Fact_L1_E (_ : List (List Fact)) (_ : (List Fact) → Option Bool) : Unit → Option (Int) := fun _ => some (-1)
theorem M_s_IndexFunc_Fact_L1_eq (a0 : List (List Fact)) (a1 : (List Fact) → Option Bool)  (hl : a0.length < 9223372036854775807) : M_s_IndexFunc_Fact_L1 a0 a1 (((a0.map cL_cF).length : Int).toNat + 1) 0 = Rg (M_s_IndexFunc_Fact_L1_B a0 a1) (M_s_IndexFunc_Fact_L1_E a0 a1) a0 0 () := rg_e1 (L := fun k i _ => M_s_IndexFunc_Fact_L1 a0 a1 k i) hl (fun _ _ _ => rfl) ()
def M_task_large_L1_B (_ : GTask) (_y8 : GOp) (_ : Int) : Unit → (Unit → Option (Bool)) → Option (Bool) := fun _ rc => ixv _y8 (fun y8 =>
       sel (decide (((y8.Effs.map cGEffect).length : Int) > 64))
        (some true)
        (rc ()))
def M_task_large_L1_E (a0 : GTask) : Unit → Option (Bool) := fun _ => ob1 (M_task_conditions a0) (fun z9 =>
       ob1 (M_s_ContainsFunc_Fact z9 M_task_large_1) (fun z10 =>
        some z10))
theorem M_task_large_L1_eq (a0 : GTask)  (hl : a0.Ops.length < 9223372036854775807) : M_task_large_L1 a0 (((a0.Ops.map cGOp).length : Int).toNat + 1) 0 = Rg (M_task_large_L1_B a0) (M_task_large_L1_E a0) a0.Ops 0 () := rg_e1 (L := fun k i _ => M_task_large_L1 a0 k i) hl (fun _ _ _ => rfl) ()
def M_task_Proper_L1_B (a0 : List Int) (_ : List Int) (_y8 : Int) (v6 : Int) : Unit → (Unit → Option (Bool)) → Option (Bool) := fun _ rc => ixv _y8 (fun y8 =>
       sel (decide (y8 < 0))
        (some false)
        (ix a0 v6 (fun y9 =>
          sel (decide (y8 ≥ y9))
           (some false)
           (rc ()))))
def M_task_Proper_L1_E (_ : List Int) (_ : List Int) : Unit → Option (Bool) := fun _ => some true
theorem M_task_Proper_L1_eq (a0 : List Int) (a1 : List Int)  (hl : a1.length < 9223372036854775807) : M_task_Proper_L1 a0 a1 (((a1.map cI).length : Int).toNat + 1) 0 = Rg (M_task_Proper_L1_B a0 a1) (M_task_Proper_L1_E a0 a1) a1 0 () := rg_e1 (L := fun k i _ => M_task_Proper_L1 a0 a1 k i) hl (fun _ _ _ => rfl) ()
def M_task_Facts_L1_B (a0 : List Int) (_ : List Fact) (_y10 : Fact) (_ : Int) : ((Int)) → (((Int)) → Option (Bool)) → Option (Bool) := fun v7 rc => ixv _y10 (fun y10 =>
       sel (decide (y10.1 ≤ v7))
        (some false)
        (sel (decide (y10.1 ≥ ((a0.map cI).length : Int)))
          (some false)
          (sel (decide (y10.2 < 0))
            (some false)
            (ix a0 y10.1 (fun y11 =>
              sel (decide (y10.2 ≥ y11))
               (some false)
               (rc (y10.1)))))))
def M_task_Facts_L1_E (_ : List Int) (_ : List Fact) : ((Int)) → Option (Bool) := fun _ => some true
theorem M_task_Facts_L1_eq (a0 : List Int) (a1 : List Fact) (v7 : Int) (hl : a1.length < 9223372036854775807) : M_task_Facts_L1 a0 a1 (((a1.map cF).length : Int).toNat + 1) v7 0 = Rg (M_task_Facts_L1_B a0 a1) (M_task_Facts_L1_E a0 a1) a1 0 v7 := rg_e1 (L := fun k i v7 => M_task_Facts_L1 a0 a1 k v7 i) hl (fun _ _ _ => rfl) v7
def M_task_named_L1_B (a0 : ByteArray) (v2 : Int) : Unit → (Unit → Option (Bool)) → Option (Bool) := fun _ rc => sel (decide ((byt a0 v2) < 32))
       (grd (0 ≤ v2) (grd (v2 < (a0.size : Int)) (some false)))
       (grd (0 ≤ v2) (grd (v2 < (a0.size : Int)) (sel (decide ((byt a0 v2) > 126))
         (some false)
         (rc ()))))
def M_task_named_L1_E (a0 : ByteArray) : Unit → Option (Bool) := fun _ => some (decide ((a0.size : Int) ≤ 256))
theorem M_task_named_L1_eq (a0 : ByteArray)  {m : Nat} (hm : (a0.size : Int) = (m : Int)) (hl : m < 9223372036854775807) : M_task_named_L1 a0 (((a0.size : Int)).toNat + 1) 0 = Rn (M_task_named_L1_B a0) (M_task_named_L1_E a0) m 0 () := rn_e (L := fun k i _ => M_task_named_L1 a0 k i) hm hl (fun _ _ _ => rfl) ()
def M_task_Check_L1_B (_ : GTask) (_y15 : Int) (_ : Int) : Unit → (Unit → Option (Unit ⊕ Er)) → Option (Unit ⊕ Er) := fun _ rc => ixv _y15 (fun y15 =>
       sel (decide (y15 < 1))
        (some (.inr (Er.no 1)))
        (sel (decide (y15 > 64))
          (some (.inr (Er.no 1)))
          (rc ())))
def M_task_Check_L1_E (_ : GTask) : Unit → Option (Unit ⊕ Er) := fun _ => some (.inl ())
theorem M_task_Check_L1_eq (a0 : GTask)  (hl : a0.Vars.length < 9223372036854775807) : M_task_Check_L1 a0 (((a0.Vars.map cI).length : Int).toNat + 1) 0 = Rg (M_task_Check_L1_B a0) (M_task_Check_L1_E a0) a0.Vars 0 () := rg_e1 (L := fun k i _ => M_task_Check_L1 a0 k i) hl (fun _ _ _ => rfl) ()
def M_task_Check_L2_B (_ : GTask) (_y29 : GOp) (_ : Int) : Unit → (Unit → Option (Unit ⊕ Er)) → Option (Unit ⊕ Er) := fun _ rc => ixv _y29 (fun y29 =>
       sel (decide (y29.Cost < 0))
        (some (.inr (Er.no 1)))
        (sel (decide (y29.Cost > 1048576))
          (some (.inr (Er.no 1)))
          (rc ())))
def M_task_Check_L2_E (_ : GTask) : Unit → Option (Unit ⊕ Er) := fun _ => some (.inl ())
theorem M_task_Check_L2_eq (a0 : GTask)  (hl : a0.Ops.length < 9223372036854775807) : M_task_Check_L2 a0 (((a0.Ops.map cGOp).length : Int).toNat + 1) 0 = Rg (M_task_Check_L2_B a0) (M_task_Check_L2_E a0) a0.Ops 0 () := rg_e1 (L := fun k i _ => M_task_Check_L2 a0 k i) hl (fun _ _ _ => rfl) ()
def M_task_Check_L3_B (a0 : GTask) (_ : List (List Fact)) (_y51 : List Fact) (_ : Int) : Unit → (Unit → Option (Unit ⊕ Er)) → Option (Unit ⊕ Er) := fun _ rc => ixv _y51 (fun y51 =>
       ob1 (M_task_Facts a0.Vars y51) (fun z52 =>
        sel (!z52)
         (some (.inr (Er.no 2)))
         (rc ())))
def M_task_Check_L3_E (_ : GTask) (_ : List (List Fact)) : Unit → Option (Unit ⊕ Er) := fun _ => some (.inl ())
theorem M_task_Check_L3_eq (a0 : GTask) (z43 : List (List Fact))  (hl : z43.length < 9223372036854775807) : M_task_Check_L3 a0 z43 (((z43.map cL_cF).length : Int).toNat + 1) 0 = Rg (M_task_Check_L3_B a0 z43) (M_task_Check_L3_E a0 z43) z43 0 () := rg_e1 (L := fun k i _ => M_task_Check_L3 a0 z43 k i) hl (fun _ _ _ => rfl) ()
def M_task_Check_L4_B (a0 : GTask) (_ : GOp) (_y191 : GEffect) (_ : Int) : Unit → (Unit → Option (Unit ⊕ Er)) → Option (Unit ⊕ Er) := fun _ rc => ixv _y191 (fun y191 =>
       ob1 (M_task_Facts a0.Vars [(y191.Var, y191.Val)]) (fun z192 =>
        sel (!z192)
         (some (.inr (Er.no 2)))
         (rc ())))
def M_task_Check_L4_E (_ : GTask) (_ : GOp) : Unit → Option (Unit ⊕ Er) := fun _ => some (.inl ())
theorem M_task_Check_L4_eq (a0 : GTask) (y183 : GOp)  (hl : y183.Effs.length < 9223372036854775807) : M_task_Check_L4 a0 y183 (((y183.Effs.map cGEffect).length : Int).toNat + 1) 0 = Rg (M_task_Check_L4_B a0 y183) (M_task_Check_L4_E a0 y183) y183.Effs 0 () := rg_e1 (L := fun k i _ => M_task_Check_L4 a0 y183 k i) hl (fun _ _ _ => rfl) ()
def M_task_Check_L5_B (a0 : GTask) (_y183 : GOp) (_ : Int) : Unit → (Unit → Option (Unit ⊕ Er)) → Option (Unit ⊕ Er) := fun _ rc => ob1 (ixv _y183 (fun y183 =>
        M_task_Check_L4 a0 y183 ((((y183.Effs.map cGEffect).length : Int)).toNat + 1) 0) : Option (Unit ⊕ Er))
       (osum
       (fun _ => rc ())
       (fun r181 => some (.inr r181)))
def M_task_Check_L5_E (_ : GTask) : Unit → Option (Unit ⊕ Er) := fun _ => some (.inl ())
theorem M_task_Check_L5_eq (a0 : GTask)  (hl : a0.Ops.length < 9223372036854775807) : M_task_Check_L5 a0 (((a0.Ops.map cGOp).length : Int).toNat + 1) 0 = Rg (M_task_Check_L5_B a0) (M_task_Check_L5_E a0) a0.Ops 0 () := rg_e2 (L := fun k i _ => M_task_Check_L5 a0 k i) hl (fun k n p y hy h1 h2 => by first | (simp only [M_task_Check_L5, M_task_Check_L5_B, List.length_map, decide_lt h1, sel, ix_at hy, ixv, h2]; done) | (simp only [List.length_map] at h1 hy; (simp only [M_task_Check_L5, M_task_Check_L5_B, List.length_map, decide_lt h1, sel, ix_at hy, ixv, h2]; done))) (fun k p => by simp only [M_task_Check_L5, M_task_Check_L5_E, List.length_map, decide_ge, sel]) ()
def M_task_Check_L6_B (_ : GTask) (_y200 : GOp) (_ : Int) : Unit → (Unit → Option (Er)) → Option (Er) := fun _ rc => ixv _y200 (fun y200 =>
       ob1 (M_task_named y200.Name) (fun z201 =>
        sel (!z201)
         (some (Er.no 8))
         (rc ())))
def M_task_Check_L6_E (_ : GTask) : Unit → Option (Er) := fun _ => some Er.nil
theorem M_task_Check_L6_eq (a0 : GTask)  (hl : a0.Ops.length < 9223372036854775807) : M_task_Check_L6 a0 (((a0.Ops.map cGOp).length : Int).toNat + 1) 0 = Rg (M_task_Check_L6_B a0) (M_task_Check_L6_E a0) a0.Ops 0 () := rg_e1 (L := fun k i _ => M_task_Check_L6 a0 k i) hl (fun _ _ _ => rfl) ()
def M_g_silent_L1_B (y102 : Fact) (_ : Int) (v106 : Int) : ((List (List Fact))) → (((List (List Fact))) → Option (List (List Fact))) → Option (List (List Fact)) := fun v107 rc => sel (v106 != y102.2)
       (grd ((v107.length + 1) * 24 ≤ 140737488355328) (rc ((v107 ++ [[(y102.1, v106)]]))))
       (rc (v107))
def M_g_silent_L1_E (_ : Fact) (_ : Int) : ((List (List Fact))) → Option (List (List Fact)) := fun v107 => some v107
theorem M_g_silent_L1_eq (y102 : Fact) (y103 : Int) (v107 : List (List Fact)) {m : Nat} (hm : y103 = (m : Int)) (hl : m < 9223372036854775807) : M_g_silent_L1 y102 y103 ((y103).toNat + 1) 0 v107 = Rn (M_g_silent_L1_B y102 y103) (M_g_silent_L1_E y102 y103) m 0 v107 := rn_e (L := fun k i v107 => M_g_silent_L1 y102 y103 k i v107) hm hl (fun _ _ _ => rfl) v107
def M_g_silent_L2_B (a0 : List Int) (_ : GEffect) (_y102 : Fact) (_ : Int) : ((List (List Fact))) → (((List (List Fact))) → Option (List (List Fact))) → Option (List (List Fact)) := fun v91 rc => ob1 (ixv _y102 (fun y102 =>
        ix a0 y102.1 (fun y103 =>
         M_g_silent_L1 y102 y103 ((y103).toNat + 1) 0 v91)) : Option (List (List Fact)))
       (fun v100 => rc (v100))
def M_g_silent_L2_E (_ : List Int) (_ : GEffect) : ((List (List Fact))) → Option (List (List Fact)) := fun v91 => some v91
theorem M_g_silent_L2_eq (a0 : List Int) (a1 : GEffect) (v91 : List (List Fact)) (hl : a1.When.length < 9223372036854775807) : M_g_silent_L2 a0 a1 (((a1.When.map cF).length : Int).toNat + 1) 0 v91 = Rg (M_g_silent_L2_B a0 a1) (M_g_silent_L2_E a0 a1) a1.When 0 v91 := rg_e2 (L := fun k i v91 => M_g_silent_L2 a0 a1 k i v91) hl (fun k n p y hy h1 h2 => by first | (simp only [M_g_silent_L2, M_g_silent_L2_B, List.length_map, decide_lt h1, sel, ix_at hy, ixv, h2]; done) | (simp only [List.length_map] at h1 hy; (simp only [M_g_silent_L2, M_g_silent_L2_B, List.length_map, decide_lt h1, sel, ix_at hy, ixv, h2]; done))) (fun k p => by simp only [M_g_silent_L2, M_g_silent_L2_E, List.length_map, decide_ge, sel]) v91
def M_p_valid_L1_B (a0 : List Fact) (_y7 : Fact) (v5 : Int) : Unit → (Unit → Option (Bool)) → Option (Bool) := fun _ rc => ixv _y7 (fun y7 =>
       sel (decide (y7.1 < 0))
        (some false)
        (sel (decide (y7.2 < 0))
          (some false)
          (sel (decide (v5 > 0))
            (ix a0 (IntKind.i64.wrap (v5 - 1)) (fun y8 =>
              sel (decide (y8.1 ≥ y7.1))
               (some false)
               (rc ())))
            (rc ()))))
def M_p_valid_L1_E (_ : List Fact) : Unit → Option (Bool) := fun _ => some true
theorem M_p_valid_L1_eq (a0 : List Fact)  (hl : a0.length < 9223372036854775807) : M_p_valid_L1 a0 (((a0.map cF).length : Int).toNat + 1) 0 = Rg (M_p_valid_L1_B a0) (M_p_valid_L1_E a0) a0 0 () := rg_e1 (L := fun k i _ => M_p_valid_L1 a0 k i) hl (fun _ _ _ => rfl) ()
def M_p_Make_L1_B (_ : List Fact) (_y15 : Fact) (_ : Int) : Unit → (Unit → Option (Unit ⊕ ((List Fact) × Er))) → Option (Unit ⊕ ((List Fact) × Er)) := fun _ rc => ixv _y15 (fun y15 =>
       sel (decide (y15.1 < 0))
        (some (.inr ([], (Er.no 1))))
        (sel (decide (y15.2 < 0))
          (some (.inr ([], (Er.no 1))))
          (rc ())))
def M_p_Make_L1_E (_ : List Fact) : Unit → Option (Unit ⊕ ((List Fact) × Er)) := fun _ => some (.inl ())
theorem M_p_Make_L1_eq (a0 : List Fact)  (hl : a0.length < 9223372036854775807) : M_p_Make_L1 a0 (((a0.map cF).length : Int).toNat + 1) 0 = Rg (M_p_Make_L1_B a0) (M_p_Make_L1_E a0) a0 0 () := rg_e1 (L := fun k i _ => M_p_Make_L1 a0 k i) hl (fun _ _ _ => rfl) ()
def M_s_CompareFunc_Fact_L1_B (_ : List Fact) (a1 : List Fact) (a2 : Fact → Fact → Option Int) (_y24 : Fact) (v22 : Int) : Unit → (Unit → Option (Unit ⊕ Int)) → Option (Unit ⊕ Int) := fun _ rc => ixv _y24 (fun y24 =>
       sel (decide (v22 ≥ ((a1.map cF).length : Int)))
        (some (.inr 1))
        (ix a1 v22 (fun y25 =>
          ob1 (a2 y24 y25) (fun z26 =>
           sel (z26 != 0)
            (some (.inr z26))
            (rc ())))))
def M_s_CompareFunc_Fact_L1_E (_ : List Fact) (_ : List Fact) (_ : Fact → Fact → Option Int) : Unit → Option (Unit ⊕ Int) := fun _ => some (.inl ())
theorem M_s_CompareFunc_Fact_L1_eq (a0 : List Fact) (a1 : List Fact) (a2 : Fact → Fact → Option Int)  (hl : a0.length < 9223372036854775807) : M_s_CompareFunc_Fact_L1 a0 a1 a2 (((a0.map cF).length : Int).toNat + 1) 0 = Rg (M_s_CompareFunc_Fact_L1_B a0 a1 a2) (M_s_CompareFunc_Fact_L1_E a0 a1 a2) a0 0 () := rg_e1 (L := fun k i _ => M_s_CompareFunc_Fact_L1 a0 a1 a2 k i) hl (fun _ _ _ => rfl) ()
def M_cmp_Or_int_L1_B (_ : List Int) (_y6 : Int) (_ : Int) : Unit → (Unit → Option (Int)) → Option (Int) := fun _ rc => ixv _y6 (fun y6 =>
       sel (y6 != 0)
        (some y6)
        (rc ()))
def M_cmp_Or_int_L1_E (_ : List Int) : Unit → Option (Int) := fun _ => some 0
theorem M_cmp_Or_int_L1_eq (a0 : List Int)  (hl : a0.length < 9223372036854775807) : M_cmp_Or_int_L1 a0 (((a0.map cI).length : Int).toNat + 1) 0 = Rg (M_cmp_Or_int_L1_B a0) (M_cmp_Or_int_L1_E a0) a0 0 () := rg_e1 (L := fun k i _ => M_cmp_Or_int_L1 a0 k i) hl (fun _ _ _ => rfl) ()
def M_g_join_L1_B (_ : List (List Fact)) (g : Nat) (y153 : List Fact) (_y173 : List Fact) (_ : Int) : ((List (List Fact)) × (List (List Fact))) → (((List (List Fact)) × (List (List Fact))) → Option (((List (List Fact)) × (List (List Fact))) ⊕ ((List (List Fact)) × Er))) → Option (((List (List Fact)) × (List (List Fact))) ⊕ ((List (List Fact)) × Er)) := fun (v170, v171) rc => ixv _y173 (fun y173 =>
       ob2 (M_p_Join y153 y173) (fun z174 z175 =>
        sel (!z175)
         (rc (v170, v171))
         (grd (v170.length ≤ 140737488355328) (ob2 (M_s_BinarySearchFunc_Fact g v170 z174 M_g_compare) (fun z176 z177 =>
           sel z177
            (rc (v170, v171))
            (sel (((v171.length : Nat) : Int) == 1024)
              (some (.inr ([], (Er.no 5))))
              (ob1 (M_insertL v170 z176 [z174]) (fun z178 =>
                grd ((v171.length + 1) * 24 ≤ 140737488355328) (rc (z178, (v171 ++ [z174])))))))))))
def M_g_join_L1_E (_ : List (List Fact)) (_ : Nat) (_ : List Fact) : ((List (List Fact)) × (List (List Fact))) → Option (((List (List Fact)) × (List (List Fact))) ⊕ ((List (List Fact)) × Er)) := fun (v170, v171) => some (.inl (v170, v171))
theorem M_g_join_L1_eq (a1 : List (List Fact)) (g : Nat) (y153 : List Fact) (v170 : List (List Fact)) (v171 : List (List Fact)) (hl : a1.length < 9223372036854775807) : M_g_join_L1 a1 g y153 (((a1.map cL_cF).length : Int).toNat + 1) 0 v170 v171 = Rg (M_g_join_L1_B a1 g y153) (M_g_join_L1_E a1 g y153) a1 0 (v170, v171) := rg_e1 (L := fun k i p => match p with | (v170, v171) => M_g_join_L1 a1 g y153 k i v170 v171) hl (fun _ _ ⟨_, _⟩ => rfl) (v170, v171)
def M_g_join_L2_B (_ : List (List Fact)) (a1 : List (List Fact)) (g : Nat) (_y153 : List Fact) (_ : Int) : ((List (List Fact)) × (List (List Fact))) → (((List (List Fact)) × (List (List Fact))) → Option ((List (List Fact)) × Er)) → Option ((List (List Fact)) × Er) := fun (v119, v120) rc => ob1 (ixv _y153 (fun y153 =>
        M_g_join_L1 a1 g y153 ((((a1.map cL_cF).length : Int)).toNat + 1) 0 v119 v120) : Option (((List (List Fact)) × (List (List Fact))) ⊕ ((List (List Fact)) × Er)))
       (osum
       (fun (v148, v149) => rc (v148, v149))
       (fun (r150, r151) => some (r150, r151)))
def M_g_join_L2_E (_ : List (List Fact)) (_ : List (List Fact)) (_ : Nat) : ((List (List Fact)) × (List (List Fact))) → Option ((List (List Fact)) × Er) := fun (_, v120) => grd (v120.length ≤ 140737488355328) (some (v120, Er.nil))
theorem M_g_join_L2_eq (a0 : List (List Fact)) (a1 : List (List Fact)) (g : Nat) (v119 : List (List Fact)) (v120 : List (List Fact)) (hl : a0.length < 9223372036854775807) : M_g_join_L2 a0 a1 g (((a0.map cL_cF).length : Int).toNat + 1) 0 v119 v120 = Rg (M_g_join_L2_B a0 a1 g) (M_g_join_L2_E a0 a1 g) a0 0 (v119, v120) := rg_e2 (L := fun k i p => match p with | (v119, v120) => M_g_join_L2 a0 a1 g k i v119 v120) hl (fun k n p y hy h1 h2 => by first | (simp only [M_g_join_L2, M_g_join_L2_B, List.length_map, decide_lt h1, sel, ix_at hy, ixv, h2]; done) | (simp only [List.length_map] at h1 hy; (simp only [M_g_join_L2, M_g_join_L2_B, List.length_map, decide_lt h1, sel, ix_at hy, ixv, h2]; done))) (fun k p => by simp only [M_g_join_L2, M_g_join_L2_E, List.length_map, decide_ge, sel]) (v119, v120)
def M_g_cases_L1_B (_ : GOp) (a2 : Fact) (_y18 : GEffect) (_ : Int) : ((List GEffect)) → (((List GEffect)) → Option (List GEffect)) → Option (List GEffect) := fun v16 rc => ixv _y18 (fun y18 =>
       sel (y18.Var == a2.1)
        (grd ((v16.length + 1) * 40 ≤ 140737488355328) (rc ((v16 ++ [y18]))))
        (rc (v16)))
def M_g_cases_L1_E (_ : GOp) (_ : Fact) : ((List GEffect)) → Option (List GEffect) := fun v16 => some v16
theorem M_g_cases_L1_eq (a1 : GOp) (a2 : Fact) (v16 : List GEffect) (hl : a1.Effs.length < 9223372036854775807) : M_g_cases_L1 a1 a2 (((a1.Effs.map cGEffect).length : Int).toNat + 1) 0 v16 = Rg (M_g_cases_L1_B a1 a2) (M_g_cases_L1_E a1 a2) a1.Effs 0 v16 := rg_e1 (L := fun k i v16 => M_g_cases_L1 a1 a2 k i v16) hl (fun _ _ _ => rfl) v16
def M_g_cases_L2_B (a0 : List Int) (a2 : Fact) (g : Nat) (v9 : List GEffect) (v780 : Int) (v913 : Int) : ((List (List Fact))) → (((List (List Fact))) → Option ((List (List Fact)) ⊕ ((List (List Fact)) × Er))) → Option ((List (List Fact)) ⊕ ((List (List Fact)) × Er)) := fun v912 rc => ixn v9 ((IntKind.i64.wrap (v780 + 1)).toNat + (v913).toNat) (fun y915 =>
       grd (0 ≤ v913) (grd (v913 < ((v9.length - (IntKind.i64.wrap (v780 + 1)).toNat : Nat) : Int)) (sel (y915.Val == a2.2)
        (rc (v912))
        (ob2 (M_g_silent a0 y915) (fun z916 z917 =>
          erM z917
           (ob2 (M_g_join g v912 z916) (fun z919 z920 =>
             erM z920
              (rc (z919))
              (fun e921 => some (.inr ([], (Er.no e921))))))
           (fun e918 => some (.inr ([], (Er.no e918)))))))))
def M_g_cases_L2_E (_ : List Int) (_ : Fact) (_ : Nat) (_ : List GEffect) (_ : Int) : ((List (List Fact))) → Option ((List (List Fact)) ⊕ ((List (List Fact)) × Er)) := fun v912 => some (.inl v912)
theorem M_g_cases_L2_eq (a0 : List Int) (a2 : Fact) (g : Nat) (v9 : List GEffect) (v780 : Int) (v912 : List (List Fact)) {m : Nat} (hm : ((v9.length - (IntKind.i64.wrap (v780 + 1)).toNat : Nat) : Int) = (m : Int)) (hl : m < 9223372036854775807) : M_g_cases_L2 a0 a2 g v9 v780 ((((v9.length - (IntKind.i64.wrap (v780 + 1)).toNat : Nat) : Int)).toNat + 1) v912 0 = Rn (M_g_cases_L2_B a0 a2 g v9 v780) (M_g_cases_L2_E a0 a2 g v9 v780) m 0 v912 := rn_e (L := fun k i v912 => M_g_cases_L2 a0 a2 g v9 v780 k v912 i) hm hl (fun _ _ _ => rfl) v912
def M_g_cases_L3_B (_ : List (List Fact)) (_y931 : List Fact) (_ : Int) : ((List (List Fact))) → (((List (List Fact))) → Option ((List (List Fact)) ⊕ ((List (List Fact)) × Er))) → Option ((List (List Fact)) ⊕ ((List (List Fact)) × Er)) := fun v929 rc => ixv _y931 (fun y931 =>
       grd (v929.length ≤ 140737488355328) (ob1 (M_s_ContainsFunc_Fact v929 (M_g_cases_1 y931)) (fun z932 =>
        sel (!z932)
         (grd ((v929.length + 1) * 24 ≤ 140737488355328) (rc ((v929 ++ [y931]))))
         (rc (v929)))))
def M_g_cases_L3_E (_ : List (List Fact)) : ((List (List Fact))) → Option ((List (List Fact)) ⊕ ((List (List Fact)) × Er)) := fun v929 => some (.inl v929)
theorem M_g_cases_L3_eq (v892 : List (List Fact)) (v929 : List (List Fact)) (hl : v892.length < 9223372036854775807) : M_g_cases_L3 v892 (((v892.map cL_cF).length : Int).toNat + 1) 0 v929 = Rg (M_g_cases_L3_B v892) (M_g_cases_L3_E v892) v892 0 v929 := rg_e1 (L := fun k i v929 => M_g_cases_L3 v892 k i v929) hl (fun _ _ _ => rfl) v929
def M_g_preimage_L1_B (a0 : GTask) (_ : List Fact) (g : Nat) (y7 : GOp) (_y47 : Fact) (v44 : Int) : ((List (List (List Fact)))) → (((List (List (List Fact)))) → Option ((List (List (List Fact))) ⊕ ((List (List Fact)) × Er))) → Option ((List (List (List Fact))) ⊕ ((List (List Fact)) × Er)) := fun v45 rc => ixv _y47 (fun y47 =>
       ob2 (M_g_cases g a0.Vars y7 y47) (fun z48 z49 =>
        erM z49
         (ixn v45 ((v44).toNat) (fun _ =>
           grd (v44 < ((v45.length : Nat) : Int)) (rc ((v45.set ((v44).toNat) z48)))))
         (fun e50 => some (.inr ([], (Er.no e50))))))
def M_g_preimage_L1_E (_ : GTask) (_ : List Fact) (_ : Nat) (_ : GOp) : ((List (List (List Fact)))) → Option ((List (List (List Fact))) ⊕ ((List (List Fact)) × Er)) := fun v45 => some (.inl v45)
theorem M_g_preimage_L1_eq (a0 : GTask) (a2 : List Fact) (g : Nat) (y7 : GOp) (v45 : List (List (List Fact))) (hl : a2.length < 9223372036854775807) : M_g_preimage_L1 a0 a2 g y7 (((a2.map cF).length : Int).toNat + 1) 0 v45 = Rg (M_g_preimage_L1_B a0 a2 g y7) (M_g_preimage_L1_E a0 a2 g y7) a2 0 v45 := rg_e1 (L := fun k i v45 => M_g_preimage_L1 a0 a2 g y7 k i v45) hl (fun _ _ _ => rfl) v45
def M_g_preimage_L2_B (g : Nat) (v28 : List (List (List Fact))) (v64 : Int) : ((List (List Fact))) → (((List (List Fact))) → Option ((List (List Fact)) × Er)) → Option ((List (List Fact)) × Er) := fun v63 rc => ixn v28 ((v64).toNat) (fun y66 =>
       grd (0 ≤ v64) (grd (v64 < ((v28.length : Nat) : Int)) (ob2 (M_g_join g v63 y66) (fun z67 z68 =>
        erM z68
         (rc (z67))
         (fun e69 => some ([], (Er.no e69)))))))
def M_g_preimage_L2_E (_ : Nat) (_ : List (List (List Fact))) : ((List (List Fact))) → Option ((List (List Fact)) × Er) := fun v63 => some (v63, Er.nil)
theorem M_g_preimage_L2_eq (g : Nat) (v28 : List (List (List Fact))) (v63 : List (List Fact)) {m : Nat} (hm : ((v28.length : Nat) : Int) = (m : Int)) (hl : m < 9223372036854775807) : M_g_preimage_L2 g v28 ((((v28.length : Nat) : Int)).toNat + 1) v63 0 = Rn (M_g_preimage_L2_B g v28) (M_g_preimage_L2_E g v28) m 0 v63 := rn_e (L := fun k i v63 => M_g_preimage_L2 g v28 k v63 i) hm hl (fun _ _ _ => rfl) v63
def M_p_find_L1_B (_ : List Fact) (a1 : Int) (_y6 : Fact) (_ : Int) : Unit → (Unit → Option (Int)) → Option (Int) := fun _ rc => ixv _y6 (fun y6 =>
       sel (y6.1 == a1)
        (some y6.2)
        (rc ()))
def M_p_find_L1_E (_ : List Fact) (_ : Int) : Unit → Option (Int) := fun _ => some (-1)
theorem M_p_find_L1_eq (a0 : List Fact) (a1 : Int)  (hl : a0.length < 9223372036854775807) : M_p_find_L1 a0 a1 (((a0.map cF).length : Int).toNat + 1) 0 = Rg (M_p_find_L1_B a0 a1) (M_p_find_L1_E a0 a1) a0 0 () := rg_e1 (L := fun k i _ => M_p_find_L1 a0 a1 k i) hl (fun _ _ _ => rfl) ()
def M_p_contains_L1_B (a0 : List Fact) (_ : List Fact) (_y8 : Fact) (_ : Int) : Unit → (Unit → Option (Bool)) → Option (Bool) := fun _ rc => ixv _y8 (fun y8 =>
       ob1 (M_p_find a0 y8.1) (fun z9 =>
        sel (z9 != y8.2)
         (some false)
         (rc ())))
def M_p_contains_L1_E (_ : List Fact) (_ : List Fact) : Unit → Option (Bool) := fun _ => some true
theorem M_p_contains_L1_eq (a0 : List Fact) (a1 : List Fact)  (hl : a1.length < 9223372036854775807) : M_p_contains_L1 a0 a1 (((a1.map cF).length : Int).toNat + 1) 0 = Rg (M_p_contains_L1_B a0 a1) (M_p_contains_L1_E a0 a1) a1 0 () := rg_e1 (L := fun k i _ => M_p_contains_L1 a0 a1 k i) hl (fun _ _ _ => rfl) ()
def M_p_Minimal_L1_B (_ : List (List Fact)) (v115 : Int) (y149 : List Fact) (_y174 : List Fact) (v172 : Int) : Unit → (Unit → Option (Bool)) → Option (Bool) := fun _ rc => ixv _y174 (fun y174 =>
       sel (v115 != v172)
        (ob1 (M_p_valid y174) (fun z175 =>
          sel z175
           (ob1 (M_p_contains y149 y174) (fun z176 =>
             sel z176
              (sel (decide (((y174.map cF).length : Int) < ((y149.map cF).length : Int)))
                (some false)
                (sel (decide (v172 < v115))
                  (some false)
                  (rc ())))
              (rc ())))
           (rc ())))
        (rc ()))
def M_p_Minimal_L1_E (_ : List (List Fact)) (_ : Int) (_ : List Fact) : Unit → Option (Bool) := fun _ => some true
theorem M_p_Minimal_L1_eq (a0 : List (List Fact)) (v115 : Int) (y149 : List Fact)  (hl : a0.length < 9223372036854775807) : M_p_Minimal_L1 a0 v115 y149 (((a0.map cL_cF).length : Int).toNat + 1) 0 = Rg (M_p_Minimal_L1_B a0 v115 y149) (M_p_Minimal_L1_E a0 v115 y149) a0 0 () := rg_e1 (L := fun k i _ => M_p_Minimal_L1 a0 v115 y149 k i) hl (fun _ _ _ => rfl) ()
def M_p_Minimal_L2_B (a0 : List (List Fact)) (_y149 : List Fact) (v115 : Int) : ((List (List Fact))) → (((List (List Fact))) → Option (List (List Fact))) → Option (List (List Fact)) := fun v116 rc => ob1 (ixv _y149 (fun y149 =>
        ob1 (M_p_valid y149) (fun z150 =>
         sel (!z150)
          (some v116)
          (ob1 (M_p_Minimal_L1 a0 v115 y149 ((((a0.map cL_cF).length : Int)).toNat + 1) 0 : Option (Bool))
            (fun v163 => sel v163
               (ob1 (M_cloneF y149) (fun z177 =>
                 grd ((v116.length + 1) * 24 ≤ 140737488355328) (grd (z177.length ≤ 140737488355328) (some (v116 ++ [z177])))))
               (some v116))))) : Option (List (List Fact)))
       (fun v147 => rc (v147))
def M_p_Minimal_L2_E (_ : List (List Fact)) : ((List (List Fact))) → Option (List (List Fact)) := fun v116 => some v116
theorem M_p_Minimal_L2_eq (a0 : List (List Fact)) (v116 : List (List Fact)) (hl : a0.length < 9223372036854775807) : M_p_Minimal_L2 a0 (((a0.map cL_cF).length : Int).toNat + 1) 0 v116 = Rg (M_p_Minimal_L2_B a0) (M_p_Minimal_L2_E a0) a0 0 v116 := rg_e2 (L := fun k i v116 => M_p_Minimal_L2 a0 k i v116) hl (fun k n p y hy h1 h2 => by first | (simp only [M_p_Minimal_L2, M_p_Minimal_L2_B, List.length_map, decide_lt h1, sel, ix_at hy, ixv, h2]; done) | (simp only [List.length_map] at h1 hy; (simp only [M_p_Minimal_L2, M_p_Minimal_L2_B, List.length_map, decide_lt h1, sel, ix_at hy, ixv, h2]; done))) (fun k p => by simp only [M_p_Minimal_L2, M_p_Minimal_L2_E, List.length_map, decide_ge, sel]) v116
def M_g_Regress_L1_B (_ : List (List Fact)) (v14 : Int) : ((List (List Fact))) → (((List (List Fact))) → Option ((List (List Fact)) × Er)) → Option ((List (List Fact)) × Er) := fun v15 rc => ixn v15 ((v14).toNat) (fun y17 =>
       ob1 (M_cloneF y17) (fun z18 =>
        ixn v15 ((v14).toNat) (fun _ =>
         grd (0 ≤ v14) (grd (v14 < ((v15.length : Nat) : Int)) (grd (z18.length ≤ 140737488355328) (rc ((v15.set ((v14).toNat) z18))))))))
def M_g_Regress_L1_E (_ : List (List Fact)) : ((List (List Fact))) → Option ((List (List Fact)) × Er) := fun v15 => grd (v15.length ≤ 140737488355328) (some (v15, Er.nil))
theorem M_g_Regress_L1_eq (z4 : List (List Fact)) (v15 : List (List Fact)) {m : Nat} (hm : ((z4.length : Nat) : Int) = (m : Int)) (hl : m < 9223372036854775807) : M_g_Regress_L1 z4 ((((z4.length : Nat) : Int)).toNat + 1) 0 v15 = Rn (M_g_Regress_L1_B z4) (M_g_Regress_L1_E z4) m 0 v15 := rn_e (L := fun k i v15 => M_g_Regress_L1 z4 k i v15) hm hl (fun _ _ _ => rfl) v15
def M_b_State_L1_B (a0 : List Int) (a1 : List Int) (_y10 : Int) (v8 : Int) : Unit → (Unit → Option (Bool)) → Option (Bool) := fun _ rc => ixv _y10 (fun y10 =>
       sel (decide (y10 < 0))
        (some false)
        (ix a1 v8 (fun y11 =>
          ix a0 v8 (fun y12 =>
           sel (decide (y11 ≥ y12))
            (some false)
            (rc ())))))
def M_b_State_L1_E (_ : List Int) (_ : List Int) : Unit → Option (Bool) := fun _ => some true
theorem M_b_State_L1_eq (a0 : List Int) (a1 : List Int)  (hl : a1.length < 9223372036854775807) : M_b_State_L1 a0 a1 (((a1.map cI).length : Int).toNat + 1) 0 = Rg (M_b_State_L1_B a0 a1) (M_b_State_L1_E a0 a1) a1 0 () := rg_e1 (L := fun k i _ => M_b_State_L1 a0 a1 k i) hl (fun _ _ _ => rfl) ()
def M_b_Proper_L1_B (a0 : List Int) (a1 : List Fact) (_y9 : Fact) (v7 : Int) : Unit → (Unit → Option (Bool)) → Option (Bool) := fun _ rc => ixv _y9 (fun y9 =>
       sel (decide (y9.1 < 0))
        (some false)
        (sel (decide (y9.1 ≥ ((a0.map cI).length : Int)))
          (some false)
          (sel (decide (y9.2 < 0))
            (some false)
            (ix a0 y9.1 (fun y10 =>
              sel (decide (y9.2 ≥ y10))
               (some false)
               (sel (decide (v7 > 0))
                 (ix a1 (IntKind.i64.wrap (v7 - 1)) (fun y11 =>
                   sel (decide (y11.1 ≥ y9.1))
                    (some false)
                    (rc ())))
                 (rc ())))))))
def M_b_Proper_L1_E (_ : List Int) (_ : List Fact) : Unit → Option (Bool) := fun _ => some true
theorem M_b_Proper_L1_eq (a0 : List Int) (a1 : List Fact)  (hl : a1.length < 9223372036854775807) : M_b_Proper_L1 a0 a1 (((a1.map cF).length : Int).toNat + 1) 0 = Rg (M_b_Proper_L1_B a0 a1) (M_b_Proper_L1_E a0 a1) a1 0 () := rg_e1 (L := fun k i _ => M_b_Proper_L1 a0 a1 k i) hl (fun _ _ _ => rfl) ()
def M_b_operator_L1_B (a1 : GOp) (v11 : Int) : Unit → (Unit → Option (Unit ⊕ Bool)) → Option (Unit ⊕ Bool) := fun _ rc => sel (decide ((byt a1.Name v11) < 32))
       (grd (0 ≤ v11) (grd (v11 < (a1.Name.size : Int)) (some (.inr false))))
       (grd (0 ≤ v11) (grd (v11 < (a1.Name.size : Int)) (sel (decide ((byt a1.Name v11) > 126))
         (some (.inr false))
         (rc ()))))
def M_b_operator_L1_E (_ : GOp) : Unit → Option (Unit ⊕ Bool) := fun _ => some (.inl ())
theorem M_b_operator_L1_eq (a1 : GOp)  {m : Nat} (hm : (a1.Name.size : Int) = (m : Int)) (hl : m < 9223372036854775807) : M_b_operator_L1 a1 (((a1.Name.size : Int)).toNat + 1) 0 = Rn (M_b_operator_L1_B a1) (M_b_operator_L1_E a1) m 0 () := rn_e (L := fun k i _ => M_b_operator_L1 a1 k i) hm hl (fun _ _ _ => rfl) ()
def M_b_operator_L2_B (a0 : List Int) (_ : GOp) (_y22 : GEffect) (_ : Int) : Unit → (Unit → Option (Bool)) → Option (Bool) := fun _ rc => ixv _y22 (fun y22 =>
       ob1 (M_b_Proper a0 y22.When) (fun z23 =>
        sel (!z23)
         (some false)
         (ob1 (M_b_Proper a0 [(y22.Var, y22.Val)]) (fun z24 =>
           sel (!z24)
            (some false)
            (rc ())))))
def M_b_operator_L2_E (_ : List Int) (_ : GOp) : Unit → Option (Bool) := fun _ => some true
theorem M_b_operator_L2_eq (a0 : List Int) (a1 : GOp)  (hl : a1.Effs.length < 9223372036854775807) : M_b_operator_L2 a0 a1 (((a1.Effs.map cGEffect).length : Int).toNat + 1) 0 = Rg (M_b_operator_L2_B a0 a1) (M_b_operator_L2_E a0 a1) a1.Effs 0 () := rg_e1 (L := fun k i _ => M_b_operator_L2 a0 a1 k i) hl (fun _ _ _ => rfl) ()
def M_b_Good_L1_B (_ : GTask) (_y16 : Int) (_ : Int) : Unit → (Unit → Option (Unit ⊕ Bool)) → Option (Unit ⊕ Bool) := fun _ rc => ixv _y16 (fun y16 =>
       sel (decide (y16 < 1))
        (some (.inr false))
        (sel (decide (y16 > 64))
          (some (.inr false))
          (rc ())))
def M_b_Good_L1_E (_ : GTask) : Unit → Option (Unit ⊕ Bool) := fun _ => some (.inl ())
theorem M_b_Good_L1_eq (a0 : GTask)  (hl : a0.Vars.length < 9223372036854775807) : M_b_Good_L1 a0 (((a0.Vars.map cI).length : Int).toNat + 1) 0 = Rg (M_b_Good_L1_B a0) (M_b_Good_L1_E a0) a0.Vars 0 () := rg_e1 (L := fun k i _ => M_b_Good_L1 a0 k i) hl (fun _ _ _ => rfl) ()
def M_b_Good_L2_B (a0 : GTask) (_y30 : GOp) (_ : Int) : Unit → (Unit → Option (Bool)) → Option (Bool) := fun _ rc => ixv _y30 (fun y30 =>
       ob1 (M_b_operator a0.Vars y30) (fun z31 =>
        sel (!z31)
         (some false)
         (rc ())))
def M_b_Good_L2_E (_ : GTask) : Unit → Option (Bool) := fun _ => some true
theorem M_b_Good_L2_eq (a0 : GTask)  (hl : a0.Ops.length < 9223372036854775807) : M_b_Good_L2 a0 (((a0.Ops.map cGOp).length : Int).toNat + 1) 0 = Rg (M_b_Good_L2_B a0) (M_b_Good_L2_E a0) a0.Ops 0 () := rg_e1 (L := fun k i _ => M_b_Good_L2 a0 k i) hl (fun _ _ _ => rfl) ()
def M_b_Many_L1_B (_ : List Int) (a1 : Int) (_y8 : Int) (_ : Int) : ((Int)) → (((Int)) → Option (Int)) → Option (Int) := fun v5 rc => ixv _y8 (fun y8 =>
       sel (decide ((IntKind.i64.wrap (v5 * (min (max y8 0) (IntKind.i64.wrap (a1 + 1))))) > a1))
        (some (IntKind.i64.wrap (a1 + 1)))
        (rc ((IntKind.i64.wrap (v5 * (min (max y8 0) (IntKind.i64.wrap (a1 + 1))))))))
def M_b_Many_L1_E (_ : List Int) (_ : Int) : ((Int)) → Option (Int) := fun v5 => some v5
theorem M_b_Many_L1_eq (a0 : List Int) (a1 : Int) (v5 : Int) (hl : a0.length < 9223372036854775807) : M_b_Many_L1 a0 a1 (((a0.map cI).length : Int).toNat + 1) v5 0 = Rg (M_b_Many_L1_B a0 a1) (M_b_Many_L1_E a0 a1) a0 0 v5 := rg_e1 (L := fun k i v5 => M_b_Many_L1 a0 a1 k v5 i) hl (fun _ _ _ => rfl) v5
def M_b_Small_L1_B (_ : GTask) (_y16 : GOp) (_ : Int) : Unit → (Unit → Option (Unit ⊕ Bool)) → Option (Unit ⊕ Bool) := fun _ rc => ixv _y16 (fun y16 =>
       sel (decide (((y16.Effs.map cGEffect).length : Int) > 8))
        (some (.inr false))
        (rc ()))
def M_b_Small_L1_E (_ : GTask) : Unit → Option (Unit ⊕ Bool) := fun _ => some (.inl ())
theorem M_b_Small_L1_eq (a0 : GTask)  (hl : a0.Ops.length < 9223372036854775807) : M_b_Small_L1 a0 (((a0.Ops.map cGOp).length : Int).toNat + 1) 0 = Rg (M_b_Small_L1_B a0) (M_b_Small_L1_E a0) a0.Ops 0 () := rg_e1 (L := fun k i _ => M_b_Small_L1 a0 k i) hl (fun _ _ _ => rfl) ()
def M_b_Tame_L1_B (_ : GTask) (_y15 : Int) (_ : Int) : Unit → (Unit → Option (Unit ⊕ Bool)) → Option (Unit ⊕ Bool) := fun _ rc => ixv _y15 (fun y15 =>
       sel (decide (y15 < 2))
        (some (.inr false))
        (sel (decide (y15 > 4))
          (some (.inr false))
          (rc ())))
def M_b_Tame_L1_E (_ : GTask) : Unit → Option (Unit ⊕ Bool) := fun _ => some (.inl ())
theorem M_b_Tame_L1_eq (a0 : GTask)  (hl : a0.Vars.length < 9223372036854775807) : M_b_Tame_L1 a0 (((a0.Vars.map cI).length : Int).toNat + 1) 0 = Rg (M_b_Tame_L1_B a0) (M_b_Tame_L1_E a0) a0.Vars 0 () := rg_e1 (L := fun k i _ => M_b_Tame_L1 a0 k i) hl (fun _ _ _ => rfl) ()
def M_b_Tame_L2_B (_ : GOp) (_y144 : GEffect) (_ : Int) : ((Int)) → (((Int)) → Option (Int ⊕ Bool)) → Option (Int ⊕ Bool) := fun v141 rc => ixv _y144 (fun y144 =>
       sel (decide (((y144.When.map cF).length : Int) > 2))
        (some (.inr false))
        (sel (decide (((y144.When.map cF).length : Int) > 0))
          (rc ((IntKind.i64.wrap (v141 + 1))))
          (rc (v141))))
def M_b_Tame_L2_E (_ : GOp) : ((Int)) → Option (Int ⊕ Bool) := fun v141 => some (.inl v141)
theorem M_b_Tame_L2_eq (y125 : GOp) (v141 : Int) (hl : y125.Effs.length < 9223372036854775807) : M_b_Tame_L2 y125 (((y125.Effs.map cGEffect).length : Int).toNat + 1) v141 0 = Rg (M_b_Tame_L2_B y125) (M_b_Tame_L2_E y125) y125.Effs 0 v141 := rg_e1 (L := fun k i v141 => M_b_Tame_L2 y125 k v141 i) hl (fun _ _ _ => rfl) v141
def M_b_Tame_L3_B (_ : GTask) (_y125 : GOp) (_ : Int) : Unit → (Unit → Option (Bool)) → Option (Bool) := fun _ rc => ob1 (ixv _y125 (fun y125 =>
        ob1 (M_b_Tame_L2 y125 ((((y125.Effs.map cGEffect).length : Int)).toNat + 1) 0 0 : Option (Int ⊕ Bool))
         (osum
         (fun v134 => sel (decide (v134 > 3))
            (some (.inr false))
            (some (.inl ())))
         (fun r135 => some (.inr r135)))) : Option (Unit ⊕ Bool))
       (osum
       (fun _ => rc ())
       (fun r123 => some r123))
def M_b_Tame_L3_E (_ : GTask) : Unit → Option (Bool) := fun _ => some true
theorem M_b_Tame_L3_eq (a0 : GTask)  (hl : a0.Ops.length < 9223372036854775807) : M_b_Tame_L3 a0 (((a0.Ops.map cGOp).length : Int).toNat + 1) 0 = Rg (M_b_Tame_L3_B a0) (M_b_Tame_L3_E a0) a0.Ops 0 () := rg_e2 (L := fun k i _ => M_b_Tame_L3 a0 k i) hl (fun k n p y hy h1 h2 => by first | (simp only [M_b_Tame_L3, M_b_Tame_L3_B, List.length_map, decide_lt h1, sel, ix_at hy, ixv, h2]; done) | (simp only [List.length_map] at h1 hy; (simp only [M_b_Tame_L3, M_b_Tame_L3_B, List.length_map, decide_lt h1, sel, ix_at hy, ixv, h2]; done))) (fun k p => by simp only [M_b_Tame_L3, M_b_Tame_L3_E, List.length_map, decide_ge, sel]) ()
def M_task_Holds_L1_B (_ : List Fact) (a1 : List Int) (_y8 : Fact) (_ : Int) : Unit → (Unit → Option (Bool)) → Option (Bool) := fun _ rc => ixv _y8 (fun y8 =>
       sel (decide (y8.1 < 0))
        (some false)
        (sel (decide (y8.1 ≥ ((a1.map cI).length : Int)))
          (some false)
          (ix a1 y8.1 (fun y9 =>
            sel (y9 != y8.2)
             (some false)
             (rc ())))))
def M_task_Holds_L1_E (_ : List Fact) (_ : List Int) : Unit → Option (Bool) := fun _ => some true
theorem M_task_Holds_L1_eq (a0 : List Fact) (a1 : List Int)  (hl : a0.length < 9223372036854775807) : M_task_Holds_L1 a0 a1 (((a0.map cF).length : Int).toNat + 1) 0 = Rg (M_task_Holds_L1_B a0 a1) (M_task_Holds_L1_E a0 a1) a0 0 () := rg_e1 (L := fun k i _ => M_task_Holds_L1 a0 a1 k i) hl (fun _ _ _ => rfl) ()
end Go.Proofs.YtohjegemooakpaaGreat.Am
/- Plain laws of tasks: facts, states, operators; what Check and Good answer. -/
namespace Go.Proofs.YtohjegemooakpaaGreat.Am
open Go.RowKit
section
variable {α β : Type}
theorem ix_getD {l : List α} {i : Int} {d : α} {k : α → Option β} (h0 : 0 ≤ i) (h1 : i < l.length) : ix l i k = k (l.getD i.toNat d) := by
  obtain ⟨n, rfl⟩ : ∃ n : Nat, i = n := ⟨i.toNat, by omega⟩
  have hn : n < l.length := by omega
  rw [ix_at (List.getElem?_eq_getElem hn), Int.toNat_natCast]
  simp [hn]
end
/-- short lists -/
abbrev Sh {α : Type} (l : List α) : Prop := l.length ≤ 140737488355328
theorem Sh.lt {α : Type} {l : List α} (h : Sh l) : l.length < 9223372036854775807 := Nat.lt_of_le_of_lt h (by decide)
/-- proper facts -/
def propF (vars : List Int) : Int → List Fact → Bool
  | _, [] => true
  | last, y :: r => decide (last < y.1 ∧ y.1 < vars.length ∧ 0 ≤ y.2 ∧ y.2 < vars.getD y.1.toNat 0) && propF vars y.1 r
theorem facts_loop (vars : List Int) (l : List Fact) : ∀ (r : List Fact) (i last : Int), -1 ≤ last → Rg (M_task_Facts_L1_B vars l) (M_task_Facts_L1_E vars l) r i last = some (propF vars last r)
  | [], _, _, _ => rfl
  | y :: r, i, last, hl => by
    rw [Rg, propF]
    simp only [M_task_Facts_L1_B, ixv, sel_dec, List.length_map]
    by_cases h1 : y.1 ≤ last
    · rw [if_pos h1, decide_eq_false (by omega)]; rfl
    · rw [if_neg h1]
      by_cases h2 : y.1 ≥ vars.length
      · rw [if_pos h2, decide_eq_false (by omega)]; rfl
      · rw [if_neg h2]
        by_cases h3 : y.2 < 0
        · rw [if_pos h3, decide_eq_false (by omega)]; rfl
        · rw [if_neg h3, ix_getD (d := 0) (by omega) (by omega)]
          by_cases h4 : y.2 ≥ vars.getD y.1.toNat 0
          · rw [if_pos h4, decide_eq_false (by omega)]; rfl
          · rw [if_neg h4, decide_eq_true (by omega), facts_loop vars l r (i + 1) y.1 (by omega)]; rfl
theorem facts_eq (vars : List Int) (l : List Fact) (hl : Sh l) : M_task_Facts vars l = some (propF vars (-1) l) := by
  rw [M_task_Facts, M_task_Facts_L1_eq _ _ _ hl.lt]
  exact facts_loop vars l l 0 (-1) (by omega)
/-- the last variable of the facts ahead -/
theorem proper_loop (vars : List Int) (l : List Fact) (hs : Sh l) : ∀ (r : List Fact) (n : Nat) (last : Int), l.drop n = r → n ≤ l.length → -1 ≤ last → (n = 0 → last = -1) → (∀ m, n = m + 1 → ∃ x, l[m]? = some x ∧ x.1 = last) → Rg (M_b_Proper_L1_B vars l) (M_b_Proper_L1_E vars l) r n () = some (propF vars last r)
  | [], _, _, _, _, _, _, _ => rfl
  | y :: r, n, last, hd, hn, hl, h0, hp => by
    rw [Rg, propF]
    have hlt : n < l.length := by
      rcases Nat.lt_or_ge n l.length with h | h
      · exact h
      · rw [List.drop_eq_nil_of_le h] at hd; cases hd
    have hy : l[n]? = some y := by
      have := congrArg (·[0]?) hd
      simpa [List.getElem?_drop] using this
    have hd' : l.drop (n + 1) = r := by
      have := congrArg List.tail hd
      simpa using this
    have hrec := proper_loop vars l hs r (n + 1) y.1 hd' hlt
    have hih : 0 ≤ y.1 → Rg (M_b_Proper_L1_B vars l) (M_b_Proper_L1_E vars l) r ((n : Int) + 1) () = some (propF vars y.1 r) := fun h => hrec (by omega) (by omega) (fun m hm => ⟨y, by rw [show m = n by omega]; exact hy, rfl⟩)
    simp only [M_b_Proper_L1_B, ixv, sel_dec, List.length_map]
    by_cases h1 : y.1 < 0
    · rw [if_pos h1, decide_eq_false (by omega)]; rfl
    · rw [if_neg h1]
      by_cases h2 : y.1 ≥ vars.length
      · rw [if_pos h2, decide_eq_false (by omega)]; rfl
      · rw [if_neg h2]
        by_cases h3 : y.2 < 0
        · rw [if_pos h3, decide_eq_false (by omega)]; rfl
        · rw [if_neg h3, ix_getD (d := 0) (by omega) (by omega)]
          by_cases h4 : y.2 ≥ vars.getD y.1.toNat 0
          · rw [if_pos h4, decide_eq_false (by omega)]; rfl
          · rw [if_neg h4]
            cases n with
            | zero =>
              have := h0 rfl
              rw [if_neg (by omega), decide_eq_true (by omega)]
              exact hih (by omega)
            | succ m =>
              obtain ⟨x, hx, hxl⟩ := hp m rfl
              rw [if_pos (by omega), w64 (by omega) (by have := hs; unfold Sh at this; omega), show (((m + 1 : Nat) : Int) - 1) = (m : Int) by omega, ix_at hx]
              by_cases h5 : x.1 ≥ y.1
              · rw [if_pos h5, decide_eq_false (by omega)]; rfl
              · rw [if_neg h5, decide_eq_true (by omega)]
                exact hih (by omega)
theorem proper_eq (vars : List Int) (l : List Fact) (hl : Sh l) : M_b_Proper vars l = some (propF vars (-1) l) := by
  rw [M_b_Proper, M_b_Proper_L1_eq _ _ hl.lt]
  exact proper_loop vars l hl l 0 (-1) rfl (Nat.zero_le _) (by omega) (fun _ => rfl) (fun m hm => by omega)
/-- proper states -/
def stateF : List Int → List Int → Bool
  | [], [] => true
  | n :: r, x :: s => decide (0 ≤ x ∧ x < n) && stateF r s
  | _, _ => false
theorem stateF_len : ∀ {v s : List Int}, v.length ≠ s.length → stateF v s = false
  | [], [], h => absurd rfl h
  | [], _ :: _, _ => rfl
  | _ :: _, [], _ => rfl
  | n :: r, x :: s, h => by rw [stateF, stateF_len (by simpa using h), Bool.and_false]
theorem drop_cons {α : Type} {l r : List α} {n : Nat} {y : α} (h : l.drop n = y :: r) : l[n]? = some y ∧ l.drop (n + 1) = r ∧ n < l.length := by
  have hlt : n < l.length := by
    rcases Nat.lt_or_ge n l.length with h' | h'
    · exact h'
    · rw [List.drop_eq_nil_of_le h'] at h; cases h
  refine ⟨?_, ?_, hlt⟩
  · have := congrArg (·[0]?) h
    simpa [List.getElem?_drop] using this
  · have := congrArg List.tail h
    simpa using this
theorem tproper_loop (vars l : List Int) : ∀ (r s : List Int) (n : Nat), l.drop n = r → vars.drop n = s → r.length = s.length → Rg (M_task_Proper_L1_B vars l) (M_task_Proper_L1_E vars l) r n () = some (stateF s r)
  | [], [], _, _, _, _ => rfl
  | [], _ :: _, _, _, _, h => by simp at h
  | _ :: _, [], _, _, _, h => by simp at h
  | y :: r, v :: s, n, h1, h2, h3 => by
    obtain ⟨a1, a2, _⟩ := drop_cons h1
    obtain ⟨b1, b2, _⟩ := drop_cons h2
    have ih := tproper_loop vars l r s (n + 1) a2 b2 (by simpa using h3)
    rw [Rg, stateF]
    simp only [M_task_Proper_L1_B, ixv, sel_dec, ix_at b1]
    by_cases c1 : y < 0
    · rw [if_pos c1, decide_eq_false (by omega)]; rfl
    · rw [if_neg c1]
      by_cases c2 : y ≥ v
      · rw [if_pos c2, decide_eq_false (by omega)]; rfl
      · rw [if_neg c2, decide_eq_true (by omega)]
        exact ih
theorem state_loop (vars l : List Int) : ∀ (r s : List Int) (n : Nat), l.drop n = r → vars.drop n = s → r.length = s.length → Rg (M_b_State_L1_B vars l) (M_b_State_L1_E vars l) r n () = some (stateF s r)
  | [], [], _, _, _, _ => rfl
  | [], _ :: _, _, _, _, h => by simp at h
  | _ :: _, [], _, _, _, h => by simp at h
  | y :: r, v :: s, n, h1, h2, h3 => by
    obtain ⟨a1, a2, _⟩ := drop_cons h1
    obtain ⟨b1, b2, _⟩ := drop_cons h2
    have ih := state_loop vars l r s (n + 1) a2 b2 (by simpa using h3)
    rw [Rg, stateF]
    simp only [M_b_State_L1_B, ixv, sel_dec, ix_at b1, ix_at a1]
    by_cases c1 : y < 0
    · rw [if_pos c1, decide_eq_false (by omega)]; rfl
    · rw [if_neg c1]
      by_cases c2 : y ≥ v
      · rw [if_pos c2, decide_eq_false (by omega)]; rfl
      · rw [if_neg c2, decide_eq_true (by omega)]
        exact ih
theorem bne_len (a b : Nat) : ((a : Int) != (b : Int)) = decide (a ≠ b) := by
  by_cases h : a = b
  · subst h; simp
  · have : ¬ ((a : Int) = (b : Int)) := by omega
    simp [h, this, bne]
theorem tproper_eq (vars l : List Int) (hl : Sh l) : M_task_Proper vars l = some (stateF vars l) := by
  rw [M_task_Proper, M_task_Proper_L1_eq _ _ hl.lt, List.length_map, List.length_map, bne_len, sel_dec]
  split
  · rename_i h; rw [stateF_len (fun e => h e.symm)]
  · rename_i h; exact tproper_loop vars l l vars 0 rfl rfl (by omega)
theorem state_eq (vars l : List Int) (hl : Sh l) : M_b_State vars l = some (stateF vars l) := by
  rw [M_b_State, M_b_State_L1_eq _ _ hl.lt, List.length_map, List.length_map, bne_len, sel_dec]
  split
  · rename_i h; rw [stateF_len (fun e => h e.symm)]
  · rename_i h; exact state_loop vars l l vars 0 rfl rfl (by omega)
/-- a loop that looks at each element -/
theorem rg_all {α γ : Type} {B : α → Int → Unit → (Unit → Option γ) → Option γ} {E : Unit → Option γ} {p : α → Bool} {c : Option γ} : ∀ {l : List α} {i : Int}, (∀ y ∈ l, ∀ i rc, B y i () rc = if p y = true then rc () else c) → Rg B E l i () = if l.all p = true then E () else c
  | [], _, _ => rfl
  | y :: r, i, h => by
    rw [Rg, h y (by simp), List.all_cons]
    cases hp : p y
    · simp
    · simp only [Bool.true_and, if_true]
      exact rg_all (fun z hz => h z (by simp [hz]))
theorem rn_all {γ : Type} {B : Int → Unit → (Unit → Option γ) → Option γ} {E : Unit → Option γ} {p : Nat → Bool} {c : Option γ} : ∀ {m n : Nat}, (∀ k, n ≤ k → k < n + m → ∀ rc, B k () rc = if p k = true then rc () else c) → Rn B E m n () = if (List.range' n m).all p = true then E () else c
  | 0, _, _ => rfl
  | m + 1, n, h => by
    rw [Rn, h n (Nat.le_refl _) (by omega), List.range'_succ, List.all_cons]
    cases hp : p n
    · simp
    · simp only [Bool.true_and, if_true]
      have := rn_all (m := m) (n := n + 1) (E := E) (fun k h1 h2 => h k (by omega) (by omega))
      exact this
def charF (c : UInt8) : Bool := decide (32 ≤ c.toNat ∧ c.toNat ≤ 126)
theorem byt_at (s : ByteArray) (k : Nat) (h : k < s.size) : ∃ c, (bl s)[k]? = some c ∧ byt s (k : Int) = (c.toNat : Int) := by
  have h' : k < (bl s).length := by rw [bl_len]; exact h
  exact ⟨(bl s)[k], List.getElem?_eq_getElem h', byt_bl s k h⟩
theorem range_bytes (s : ByteArray) (p : UInt8 → Bool) : (List.range' 0 s.size).all (fun k => match (bl s)[k]? with | some c => p c | none => false) = (bl s).all p := by
  rw [Bool.eq_iff_iff, List.all_eq_true, List.all_eq_true]
  constructor
  · intro h c hc
    obtain ⟨k, hk⟩ := List.getElem?_of_mem hc
    have hlt : k < s.size := by rw [← bl_len]; exact (List.getElem?_eq_some_iff.1 hk).1
    have := h k (by simp; exact hlt)
    rw [hk] at this
    exact this
  · intro h k hk
    have hlt : k < (bl s).length := by rw [bl_len]; simpa using hk
    rw [List.getElem?_eq_getElem hlt]
    exact h _ (List.getElem_mem hlt)
theorem named_eq (s : ByteArray) (hs : s.size ≤ 9223372036854775806) : M_task_named s = some ((bl s).all charF && decide (s.size ≤ 256)) := by
  rw [M_task_named, M_task_named_L1_eq _ rfl (by omega)]
  have := rn_all (γ := Bool) (B := M_task_named_L1_B s) (E := M_task_named_L1_E s) (p := fun k => match (bl s)[k]? with | some c => charF c | none => false) (c := some false) (m := s.size) (n := 0) (fun k _ hk rc => by
    obtain ⟨c, h1, h2⟩ := byt_at s k (by omega)
    have g1 : (0 : Int) ≤ (k : Int) := by omega
    have g2 : (k : Int) < (s.size : Int) := by omega
    simp only [M_task_named_L1_B, h1, h2, sel_dec, grd_t g1, grd_t g2]
    unfold charF
    by_cases c1 : (c.toNat : Int) < 32
    · rw [if_pos c1, if_neg (by simp; omega)]
    · rw [if_neg c1]
      by_cases c2 : (c.toNat : Int) > 126
      · rw [if_pos c2, if_neg (by simp; omega)]
      · rw [if_neg c2, if_pos (by simp; omega)])
  rw [show ((0 : Int)) = ((0 : Nat) : Int) from rfl, this, range_bytes]
  cases (bl s).all charF
  · rfl
  · by_cases h : s.size ≤ 256 <;> simp [M_task_named_L1_E, h] <;> omega
/-- what is asked of an operator -/
def effF (vars : List Int) (e : GEffect) : Bool := propF vars (-1) e.When && propF vars (-1) [(e.Var, e.Val)]
def opF (vars : List Int) (o : GOp) : Bool := decide (0 ≤ o.Cost ∧ o.Cost ≤ 1048576 ∧ o.Effs.length ≤ 64 ∧ o.Name.size ≤ 256) && (propF vars (-1) o.Pre && ((bl o.Name).all charF && o.Effs.all (effF vars)))
def goodF (t : GTask) : Bool := decide (t.Vars.length ≤ 64 ∧ t.Ops.length ≤ 4096) && (t.Vars.all (fun n => decide (1 ≤ n ∧ n ≤ 64)) && (stateF t.Vars t.Init && (propF t.Vars (-1) t.Goal && t.Ops.all (opF t.Vars))))
/-- sizes that the form of the statement grants -/
structure ShO (o : GOp) : Prop where
  name : o.Name.size ≤ 9223372036854775806
  pre : Sh o.Pre
  effs : Sh o.Effs
  when : ∀ e ∈ o.Effs, Sh e.When
structure ShT (t : GTask) : Prop where
  vars : Sh t.Vars
  init : Sh t.Init
  goal : Sh t.Goal
  ops : Sh t.Ops
  op : ∀ o ∈ t.Ops, ShO o
theorem two_checks {α : Type} {b1 b2 : Bool} {c x : Option α} : sel (!b1) c (sel (!b2) c x) = if (b1 && b2) = true then x else c := by cases b1 <;> cases b2 <;> rfl
theorem operator_eq (vars : List Int) (o : GOp) (ho : ShO o) : M_b_operator vars o = some (opF vars o) := by
  have hn := ho.name
  have e1 : M_b_operator_L1 o (((o.Name.size : Int)).toNat + 1) 0 = if (bl o.Name).all charF = true then some (.inl ()) else some (.inr false) := by
    rw [M_b_operator_L1_eq _ rfl (by omega)]
    have := rn_all (γ := Unit ⊕ Bool) (B := M_b_operator_L1_B o) (E := M_b_operator_L1_E o) (p := fun k => match (bl o.Name)[k]? with | some c => charF c | none => false) (c := some (.inr false)) (m := o.Name.size) (n := 0) (fun k _ hk rc => by
      obtain ⟨c, h1, h2⟩ := byt_at o.Name k (by omega)
      have g1 : (0 : Int) ≤ (k : Int) := by omega
      have g2 : (k : Int) < (o.Name.size : Int) := by omega
      simp only [M_b_operator_L1_B, h1, h2, sel_dec, grd_t g1, grd_t g2]
      unfold charF
      by_cases c1 : (c.toNat : Int) < 32
      · rw [if_pos c1, if_neg (by simp; omega)]
      · rw [if_neg c1]
        by_cases c2 : (c.toNat : Int) > 126
        · rw [if_pos c2, if_neg (by simp; omega)]
        · rw [if_neg c2, if_pos (by simp; omega)])
    rw [show ((0 : Int)) = ((0 : Nat) : Int) from rfl, this, range_bytes]
    rfl
  have e2 : M_b_operator_L2 vars o ((((o.Effs.map cGEffect).length : Int)).toNat + 1) 0 = some (o.Effs.all (effF vars)) := by
    rw [M_b_operator_L2_eq _ _ ho.effs.lt, rg_all (p := effF vars) (c := some false) (fun e he i rc => by
      simp only [M_b_operator_L2_B, ixv, proper_eq vars _ (ho.when e he), proper_eq vars [(e.Var, e.Val)] (by simp [Sh]), ob1_some, effF]
      exact two_checks)]
    cases o.Effs.all (effF vars) <;> rfl
  rw [M_b_operator, e1, e2, proper_eq _ _ ho.pre]
  unfold opF
  simp only [sel_dec, List.length_map, ob1_some]
  by_cases c1 : o.Cost < 0
  · rw [if_pos c1, decide_eq_false (by omega)]; rfl
  · rw [if_neg c1]
    by_cases c2 : o.Cost > 1048576
    · rw [if_pos c2, decide_eq_false (by omega)]; rfl
    · rw [if_neg c2]
      by_cases c3 : (o.Effs.length : Int) > 64
      · rw [if_pos c3, decide_eq_false (by omega)]; rfl
      · rw [if_neg c3]
        by_cases c4 : (o.Name.size : Int) > 256
        · rw [if_pos c4, decide_eq_false (by omega)]; rfl
        · rw [if_neg c4, decide_eq_true (by omega)]
          cases propF vars (-1) o.Pre
          · rfl
          · cases (bl o.Name).all charF <;> rfl
theorem good_eq (t : GTask) (ht : ShT t) : M_b_Good t = some (goodF t) := by
  have e1 : M_b_Good_L1 t ((((t.Vars.map cI).length : Int)).toNat + 1) 0 = if t.Vars.all (fun n => decide (1 ≤ n ∧ n ≤ 64)) = true then some (.inl ()) else some (.inr false) := by
    rw [M_b_Good_L1_eq _ ht.vars.lt, rg_all (p := fun n => decide (1 ≤ n ∧ n ≤ 64)) (c := some (.inr false)) (fun n _ i rc => by
      simp only [M_b_Good_L1_B, ixv, sel_dec]
      by_cases c1 : n < 1
      · rw [if_pos c1, if_neg (by simp; omega)]
      · rw [if_neg c1]
        by_cases c2 : n > 64
        · rw [if_pos c2, if_neg (by simp; omega)]
        · rw [if_neg c2, if_pos (by simp; omega)])]
    rfl
  have e2 : M_b_Good_L2 t ((((t.Ops.map cGOp).length : Int)).toNat + 1) 0 = some (t.Ops.all (opF t.Vars)) := by
    rw [M_b_Good_L2_eq _ ht.ops.lt, rg_all (p := opF t.Vars) (c := some false) (fun o ho i rc => by
      simp only [M_b_Good_L2_B, ixv, operator_eq t.Vars o (ht.op o ho), ob1_some]
      cases opF t.Vars o <;> rfl)]
    cases t.Ops.all (opF t.Vars) <;> rfl
  rw [M_b_Good, e1, e2, state_eq _ _ ht.init, proper_eq _ _ ht.goal]
  unfold goodF
  simp only [sel_dec, List.length_map, ob1_some]
  by_cases c1 : (t.Vars.length : Int) > 64
  · rw [if_pos c1, decide_eq_false (by omega)]; rfl
  · rw [if_neg c1]
    by_cases c2 : (t.Ops.length : Int) > 4096
    · rw [if_pos c2, decide_eq_false (by omega)]; rfl
    · rw [if_neg c2, decide_eq_true (by omega)]
      cases t.Vars.all (fun n => decide (1 ≤ n ∧ n ≤ 64))
      · rfl
      · cases stateF t.Vars t.Init
        · rfl
        · cases propF t.Vars (-1) t.Goal <;> rfl
end Go.Proofs.YtohjegemooakpaaGreat.Am
/- Plain laws of tasks: what task.Check answers. -/
namespace Go.Proofs.YtohjegemooakpaaGreat.Am
open Go.RowKit
/-- a loop that looks for an element -/
theorem idx_eq {l : List (List Fact)} {f : List Fact → Option Bool} {p : List Fact → Bool} (hl : Sh l) (h : ∀ y ∈ l, f y = some (p y)) : ∃ z, M_s_IndexFunc_Fact l f = some z ∧ (0 ≤ z ↔ l.any p = true) := by
  rw [M_s_IndexFunc_Fact, M_s_IndexFunc_Fact_L1_eq _ _ hl.lt]
  have key : ∀ (r : List (List Fact)) (n : Nat), (∀ y ∈ r, f y = some (p y)) → ∃ z, Rg (M_s_IndexFunc_Fact_L1_B l f) (M_s_IndexFunc_Fact_L1_E l f) r n () = some z ∧ (0 ≤ z ↔ r.any p = true) := by
    intro r
    induction r with
    | nil => intro n _; exact ⟨-1, rfl, by simp⟩
    | cons y r ih =>
      intro n hr
      rw [Rg]
      simp only [M_s_IndexFunc_Fact_L1_B, ixv, hr y (by simp), ob1_some]
      cases hp : p y
      · obtain ⟨z, h1, h2⟩ := ih (n + 1) (fun w hw => hr w (by simp [hw]))
        exact ⟨z, h1, by rw [h2, List.any_cons, hp, Bool.false_or]⟩
      · exact ⟨n, rfl, by simp [hp]⟩
  exact key l 0 h
theorem containsFunc_eq {l : List (List Fact)} {f : List Fact → Option Bool} {p : List Fact → Bool} (hl : Sh l) (h : ∀ y ∈ l, f y = some (p y)) : M_s_ContainsFunc_Fact l f = some (l.any p) := by
  obtain ⟨z, h1, h2⟩ := idx_eq hl h
  rw [M_s_ContainsFunc_Fact, h1, ob1_some]
  congr 1
  rw [Bool.eq_iff_iff, decide_eq_true_iff, ge_iff_le, h2]
/-- all conditions of a task -/
def condsO (o : GOp) : List (List Fact) := o.Pre :: o.Effs.map (·.When)
def condsF (t : GTask) : List (List Fact) := t.Goal :: t.Ops.flatMap condsO
theorem conds1 (o : GOp) : ∀ (r : List GEffect) (i : Int) (v : List (List Fact)), v.length + r.length ≤ 1000000 → Rg (M_task_conditions_L1_B o) (M_task_conditions_L1_E o) r i v = some (v ++ r.map (·.When))
  | [], _, v, _ => by simp [Rg, M_task_conditions_L1_E]
  | e :: r, i, v, h => by
    simp only [List.length_cons] at h
    rw [Rg]
    simp only [M_task_conditions_L1_B, ixv, grd_t (show (v.length + 1) * 24 ≤ 140737488355328 by omega)]
    rw [conds1 o r (i + 1) (v ++ [e.When]) (by simp; omega)]
    simp
theorem conds2 (t : GTask) : ∀ (r : List GOp) (i : Int) (v : List (List Fact)), (∀ o ∈ r, o.Effs.length ≤ 64) → v.length + r.length * 65 ≤ 1000000 → Rg (M_task_conditions_L2_B t) (M_task_conditions_L2_E t) r i v = some (v ++ r.flatMap condsO)
  | [], _, v, _, h => by
    simp only [List.length_nil] at h
    simp [Rg, M_task_conditions_L2_E, grd_t (show v.length ≤ 140737488355328 by omega)]
  | o :: r, i, v, hr, h => by
    simp only [List.length_cons] at h
    have ho := hr o (by simp)
    rw [Rg]
    simp only [M_task_conditions_L2_B, ixv, grd_t (show (v.length + 1) * 24 ≤ 140737488355328 by omega)]
    rw [M_task_conditions_L1_eq o _ (by omega), conds1 o o.Effs 0 (v ++ [o.Pre]) (by simp; omega), ob1_some, conds2 t r (i + 1) _ (fun q hq => hr q (by simp [hq])) (by simp; omega)]
    simp [condsO]
theorem conds_eq (t : GTask) (h1 : t.Ops.length ≤ 4096) (h2 : ∀ o ∈ t.Ops, o.Effs.length ≤ 64) : M_task_conditions t = some (condsF t) := by
  rw [M_task_conditions, M_task_conditions_L2_eq _ _ (by omega), conds2 t t.Ops 0 [t.Goal] h2 (by simp; omega)]
  rfl
theorem flat_len : ∀ (r : List GOp), (∀ o ∈ r, o.Effs.length ≤ 64) → (r.flatMap condsO).length ≤ r.length * 65
  | [], _ => by simp
  | o :: r, h => by
    have h1 := flat_len r (fun q hq => h q (by simp [hq]))
    have h2 := h o (by simp)
    have h3 : (condsO o).length = o.Effs.length + 1 := by simp [condsO]
    rw [List.flatMap_cons, List.length_append, List.length_cons]
    omega
theorem conds_len (t : GTask) (h1 : t.Ops.length ≤ 4096) (h2 : ∀ o ∈ t.Ops, o.Effs.length ≤ 64) : (condsF t).length ≤ 300000 := by
  have := flat_len t.Ops h2
  rw [condsF, List.length_cons]
  omega
/-- too much of something -/
def largeF (t : GTask) : Bool := decide (t.Vars.length > 64) || (decide (t.Ops.length > 4096) || (t.Ops.any (fun o => decide (o.Effs.length > 64)) || (condsF t).any (fun l => decide (l.length > 64))))
theorem large_eq (t : GTask) (ht : ShT t) : M_task_large t = some (largeF t) := by
  rw [M_task_large]
  unfold largeF
  simp only [sel_dec, List.length_map]
  by_cases c1 : (t.Vars.length : Int) > 64
  · rw [if_pos c1, decide_eq_true (by omega)]; rfl
  · rw [if_neg c1, decide_eq_false (by omega)]
    by_cases c2 : (t.Ops.length : Int) > 4096
    · rw [if_pos c2, decide_eq_true (p := t.Ops.length > 4096) (by omega)]; rfl
    · rw [if_neg c2, decide_eq_false (p := t.Ops.length > 4096) (by omega), ob1_some, osum_inl]
      have e := M_task_large_L1_eq t ht.ops.lt
      rw [List.length_map] at e
      rw [e]
      simp only [Bool.false_or]
      by_cases c3 : ∃ o ∈ t.Ops, o.Effs.length > 64
      · have : (t.Ops.any (fun o => decide (o.Effs.length > 64))) = true := by
          rw [List.any_eq_true]
          obtain ⟨o, h1, h2⟩ := c3
          exact ⟨o, h1, by simpa using h2⟩
        rw [this, Bool.true_or, rg_all (p := fun o => decide (o.Effs.length ≤ 64)) (c := some true) (fun o _ i rc => by
          simp only [M_task_large_L1_B, ixv, sel_dec, List.length_map]
          by_cases c : (o.Effs.length : Int) > 64
          · rw [if_pos c, if_neg (by simp; omega)]
          · rw [if_neg c, if_pos (by simp; omega)]), if_neg]
        rw [List.all_eq_true]
        intro h
        obtain ⟨o, h1, h2⟩ := c3
        have := h o h1
        simp at this
        omega
      · have hall : ∀ o ∈ t.Ops, o.Effs.length ≤ 64 := fun o ho => by
          rcases Nat.lt_or_ge 64 o.Effs.length with h | h
          · exact absurd ⟨o, ho, h⟩ c3
          · exact h
        have : (t.Ops.any (fun o => decide (o.Effs.length > 64))) = false := by
          rw [List.any_eq_false]
          intro o ho
          have := hall o ho
          simp; omega
        rw [this, Bool.false_or, rg_all (p := fun o => decide (o.Effs.length ≤ 64)) (c := some true) (fun o _ i rc => by
          simp only [M_task_large_L1_B, ixv, sel_dec, List.length_map]
          by_cases c : (o.Effs.length : Int) > 64
          · rw [if_pos c, if_neg (by simp; omega)]
          · rw [if_neg c, if_pos (by simp; omega)]), if_pos (by rw [List.all_eq_true]; intro o ho; have := hall o ho; simpa using this)]
        have hc := conds_len t (by omega) hall
        rw [M_task_large_L1_E, conds_eq t (by omega) hall, ob1_some, containsFunc_eq (p := fun l => decide (l.length > 64)) (by unfold Sh; omega) (fun y _ => by
          rw [M_task_large_1, List.length_map]
          congr 1
          rw [Bool.eq_iff_iff, decide_eq_true_iff, decide_eq_true_iff]
          omega)]
        rfl
/-- the error of a task -/
def checkF (t : GTask) : Er :=
  if largeF t = true then .no 5
  else if t.Vars.all (fun n => decide (1 ≤ n ∧ n ≤ 64)) = true then
    if t.Ops.all (fun o => decide (0 ≤ o.Cost ∧ o.Cost ≤ 1048576)) = true then
      if (stateF t.Vars t.Init && ((condsF t).all (propF t.Vars (-1)) && t.Ops.all (fun o => o.Effs.all (fun e => propF t.Vars (-1) [(e.Var, e.Val)])))) = true then
        if t.Ops.all (fun o => (bl o.Name).all charF && decide (o.Name.size ≤ 256)) = true then .nil else .no 8
      else .no 2
    else .no 1
  else .no 1
theorem notlarge {t : GTask} (h : largeF t = false) : t.Vars.length ≤ 64 ∧ t.Ops.length ≤ 4096 ∧ (∀ o ∈ t.Ops, o.Effs.length ≤ 64) ∧ ∀ l ∈ condsF t, l.length ≤ 64 := by
  unfold largeF at h
  simp only [Bool.or_eq_false_iff, decide_eq_false_iff_not, List.any_eq_false, decide_eq_true_iff] at h
  obtain ⟨h1, h2, h3, h4⟩ := h
  exact ⟨by omega, by omega, fun o ho => by have := h3 o ho; omega, fun l hl => by have := h4 l hl; omega⟩
theorem conds_sh {t : GTask} (ht : ShT t) : ∀ l ∈ condsF t, Sh l := by
  intro l hl
  simp only [condsF, List.mem_cons, List.mem_flatMap, condsO, List.mem_map] at hl
  rcases hl with rfl | ⟨o, ho, rfl | ⟨e, he, rfl⟩⟩
  · exact ht.goal
  · exact (ht.op o ho).pre
  · exact (ht.op o ho).when e he
theorem check_eq (t : GTask) (ht : ShT t) : M_task_Check t = some (checkF t) := by
  have e1 : M_task_Check_L1 t ((((t.Vars.map cI).length : Int)).toNat + 1) 0 = if t.Vars.all (fun n => decide (1 ≤ n ∧ n ≤ 64)) = true then some (.inl ()) else some (.inr (Er.no 1)) := by
    rw [M_task_Check_L1_eq _ ht.vars.lt, rg_all (p := fun n => decide (1 ≤ n ∧ n ≤ 64)) (c := some (.inr (Er.no 1))) (fun n _ i rc => by
      simp only [M_task_Check_L1_B, ixv, sel_dec]
      by_cases c1 : n < 1
      · rw [if_pos c1, if_neg (by simp; omega)]
      · rw [if_neg c1]
        by_cases c2 : n > 64
        · rw [if_pos c2, if_neg (by simp; omega)]
        · rw [if_neg c2, if_pos (by simp; omega)])]
    rfl
  have e2 : M_task_Check_L2 t ((((t.Ops.map cGOp).length : Int)).toNat + 1) 0 = if t.Ops.all (fun o => decide (0 ≤ o.Cost ∧ o.Cost ≤ 1048576)) = true then some (.inl ()) else some (.inr (Er.no 1)) := by
    rw [M_task_Check_L2_eq _ ht.ops.lt, rg_all (p := fun o => decide (0 ≤ o.Cost ∧ o.Cost ≤ 1048576)) (c := some (.inr (Er.no 1))) (fun o _ i rc => by
      simp only [M_task_Check_L2_B, ixv, sel_dec]
      by_cases c1 : o.Cost < 0
      · rw [if_pos c1, if_neg (by simp; omega)]
      · rw [if_neg c1]
        by_cases c2 : o.Cost > 1048576
        · rw [if_pos c2, if_neg (by simp; omega)]
        · rw [if_neg c2, if_pos (by simp; omega)])]
    rfl
  have e3 : ∀ z : List (List Fact), Sh z → (∀ l ∈ z, Sh l) → M_task_Check_L3 t z ((((z.map cL_cF).length : Int)).toNat + 1) 0 = if z.all (propF t.Vars (-1)) = true then some (.inl ()) else some (.inr (Er.no 2)) := fun z hz hz2 => by
    rw [M_task_Check_L3_eq _ _ hz.lt, rg_all (p := propF t.Vars (-1)) (c := some (.inr (Er.no 2))) (fun l hl i rc => by
      simp only [M_task_Check_L3_B, ixv, facts_eq t.Vars l (hz2 l hl), ob1_some]
      cases propF t.Vars (-1) l <;> rfl)]
    rfl
  have e4 : ∀ o ∈ t.Ops, M_task_Check_L4 t o ((((o.Effs.map cGEffect).length : Int)).toNat + 1) 0 = if o.Effs.all (fun e => propF t.Vars (-1) [(e.Var, e.Val)]) = true then some (.inl ()) else some (.inr (Er.no 2)) := fun o ho => by
    rw [M_task_Check_L4_eq _ _ (ht.op o ho).effs.lt, rg_all (p := fun e => propF t.Vars (-1) [(e.Var, e.Val)]) (c := some (.inr (Er.no 2))) (fun e _ i rc => by
      simp only [M_task_Check_L4_B, ixv, facts_eq t.Vars [(e.Var, e.Val)] (by simp [Sh]), ob1_some]
      cases propF t.Vars (-1) [(e.Var, e.Val)] <;> rfl)]
    rfl
  have e5 : M_task_Check_L5 t ((((t.Ops.map cGOp).length : Int)).toNat + 1) 0 = if t.Ops.all (fun o => o.Effs.all (fun e => propF t.Vars (-1) [(e.Var, e.Val)])) = true then some (.inl ()) else some (.inr (Er.no 2)) := by
    rw [M_task_Check_L5_eq _ ht.ops.lt, rg_all (p := fun o => o.Effs.all (fun e => propF t.Vars (-1) [(e.Var, e.Val)])) (c := some (.inr (Er.no 2))) (fun o ho i rc => by
      simp only [M_task_Check_L5_B, ixv, e4 o ho]
      split <;> rfl)]
    rfl
  have e6 : M_task_Check_L6 t ((((t.Ops.map cGOp).length : Int)).toNat + 1) 0 = if t.Ops.all (fun o => (bl o.Name).all charF && decide (o.Name.size ≤ 256)) = true then some .nil else some (Er.no 8) := by
    rw [M_task_Check_L6_eq _ ht.ops.lt, rg_all (p := fun o => (bl o.Name).all charF && decide (o.Name.size ≤ 256)) (c := some (Er.no 8)) (fun o ho i rc => by
      have := (ht.op o ho).name
      simp only [M_task_Check_L6_B, ixv, named_eq o.Name (by omega), ob1_some]
      cases (bl o.Name).all charF && decide (o.Name.size ≤ 256) <;> rfl)]
    rfl
  rw [M_task_Check, large_eq t ht, ob1_some, e1, e2, e5, e6, tproper_eq _ _ ht.init]
  unfold checkF
  cases hlg : largeF t
  · obtain ⟨l1, l2, l3, l4⟩ := notlarge hlg
    have hc := conds_len t l2 l3
    simp only [conds_eq t l2 l3, ob1_some, e3 (condsF t) (by unfold Sh; omega) (conds_sh ht), sel, Bool.false_eq_true, if_false]
    cases t.Vars.all (fun n => decide (1 ≤ n ∧ n ≤ 64))
    · rfl
    · cases t.Ops.all (fun o => decide (0 ≤ o.Cost ∧ o.Cost ≤ 1048576))
      · rfl
      · cases stateF t.Vars t.Init
        · rfl
        · cases (condsF t).all (propF t.Vars (-1))
          · rfl
          · cases t.Ops.all (fun o => o.Effs.all (fun e => propF t.Vars (-1) [(e.Var, e.Val)]))
            · rfl
            · cases t.Ops.all (fun o => (bl o.Name).all charF && decide (o.Name.size ≤ 256)) <;> rfl
  · rfl
theorem propF_len (vars : List Int) : ∀ (l : List Fact) (last : Int), propF vars last l = true → last < vars.length → (l.length : Int) + last < vars.length
  | [], _, _, h => by simpa using h
  | y :: r, last, h, hl => by
    rw [propF, Bool.and_eq_true, decide_eq_true_iff] at h
    have := propF_len vars r y.1 h.2 h.1.2.1
    simp only [List.length_cons]
    omega
theorem propF_len' {vars : List Int} {l : List Fact} (h : propF vars (-1) l = true) : l.length ≤ vars.length := by
  have := propF_len vars l (-1) h (by omega)
  omega
theorem good_check (t : GTask) : goodF t = true ↔ checkF t = .nil := by
  have hcond : (condsF t).all (propF t.Vars (-1)) = true ↔ propF t.Vars (-1) t.Goal = true ∧ ∀ o ∈ t.Ops, propF t.Vars (-1) o.Pre = true ∧ ∀ e ∈ o.Effs, propF t.Vars (-1) e.When = true := by
    simp only [condsF, List.all_cons, Bool.and_eq_true, List.all_eq_true, List.mem_flatMap, condsO, List.mem_cons, List.mem_map]
    constructor
    · rintro ⟨h1, h2⟩
      exact ⟨h1, fun o ho => ⟨h2 _ ⟨o, ho, .inl rfl⟩, fun e he => h2 _ ⟨o, ho, .inr ⟨e, he, rfl⟩⟩⟩⟩
    · rintro ⟨h1, h2⟩
      refine ⟨h1, ?_⟩
      rintro l ⟨o, ho, rfl | ⟨e, he, rfl⟩⟩
      · exact (h2 o ho).1
      · exact (h2 o ho).2 e he
  constructor
  · intro h
    simp only [goodF, Bool.and_eq_true, decide_eq_true_iff, List.all_eq_true, opF, effF] at h
    obtain ⟨⟨g1, g2⟩, g3, g4, g5, g6⟩ := h
    have hc : (condsF t).all (propF t.Vars (-1)) = true := hcond.2 ⟨g5, fun o ho => ⟨(g6 o ho).2.1, fun e he => ((g6 o ho).2.2.2 e he).1⟩⟩
    have hl : largeF t = false := by
      unfold largeF
      simp only [Bool.or_eq_false_iff, decide_eq_false_iff_not, List.any_eq_false, decide_eq_true_iff]
      refine ⟨by omega, by omega, fun o ho => by have := (g6 o ho).1; omega, fun l hl => ?_⟩
      have := propF_len' (List.all_eq_true.1 hc l hl)
      omega
    unfold checkF
    rw [if_neg (by rw [hl]; simp), if_pos (by rw [List.all_eq_true]; intro n hn; simpa using g3 n hn), if_pos (by rw [List.all_eq_true]; intro o ho; have := (g6 o ho).1; simp; omega), if_pos, if_pos]
    · rw [List.all_eq_true]; intro o ho; simp only [Bool.and_eq_true, decide_eq_true_iff]; exact ⟨List.all_eq_true.2 (g6 o ho).2.2.1, (g6 o ho).1.2.2.2⟩
    · rw [g4, hc, Bool.true_and, Bool.true_and, List.all_eq_true]; intro o ho; rw [List.all_eq_true]; intro e he; exact ((g6 o ho).2.2.2 e he).2
  · intro h
    unfold checkF at h
    split at h
    · cases h
    · rename_i hl
      obtain ⟨l1, l2, l3, _⟩ := notlarge (by simpa using hl)
      split at h
      · rename_i h1
        split at h
        · rename_i h2
          split at h
          · rename_i h3
            split at h
            · rename_i h4
              simp only [Bool.and_eq_true] at h3
              obtain ⟨h3, h5, h6⟩ := h3
              obtain ⟨h7, h8⟩ := hcond.1 h5
              simp only [goodF, Bool.and_eq_true, decide_eq_true_iff]
              refine ⟨⟨l1, l2⟩, h1, h3, h7, ?_⟩
              rw [List.all_eq_true] at h2 h4 h6 ⊢
              intro o ho
              have a2 := h2 o ho
              have a4 := h4 o ho
              have a6 := h6 o ho
              rw [List.all_eq_true] at a6
              simp only [Bool.and_eq_true, decide_eq_true_iff] at a2 a4
              show (decide _ && (_ && (_ && _))) = true
              rw [(h8 o ho).1, a4.1, decide_eq_true ⟨a2.1, a2.2, l3 o ho, a4.2⟩, Bool.true_and, Bool.true_and, Bool.true_and]
              rw [List.all_eq_true]
              intro e he
              show (propF _ _ _ && propF _ _ _) = true
              rw [(h8 o ho).2 e he, a6 e he]; rfl
            · cases h
          · cases h
        · cases h
      · cases h
end Go.Proofs.YtohjegemooakpaaGreat.Am
/- Plain laws of lists of facts: ascending; sorted, each once; partial.valid, Make, Join. -/
namespace Go.Proofs.YtohjegemooakpaaGreat.Am
open Go.RowKit
def Asc (l : List Fact) : Prop := l.Pairwise fun a b => a.1 < b.1
def LeF (a b : Fact) : Prop := a.1 < b.1 ∨ (a.1 = b.1 ∧ a.2 ≤ b.2)
def LtF (a b : Fact) : Prop := a.1 < b.1 ∨ (a.1 = b.1 ∧ a.2 < b.2)
def Nonneg (l : List Fact) : Prop := ∀ x ∈ l, 0 ≤ x.1 ∧ 0 ≤ x.2
theorem asc_inj {l : List Fact} (h : Asc l) {a b : Fact} (ha : a ∈ l) (hb : b ∈ l) (e : a.1 = b.1) : a = b := by
  induction l with
  | nil => cases ha
  | cons z r ih =>
    obtain ⟨h1, h2⟩ := List.pairwise_cons.1 h
    rcases List.mem_cons.1 ha with ea | ha'
    · rcases List.mem_cons.1 hb with eb | hb'
      · rw [ea, eb]
      · have := h1 b hb'; rw [← ea] at this; omega
    · rcases List.mem_cons.1 hb with eb | hb'
      · have := h1 a ha'; rw [← eb] at this; omega
      · exact ih h2 ha' hb'
theorem dd_mem (x : Fact) (l : List Fact) : ∀ p, (x ∈ dd p l → x ∈ l) ∧ (x ∈ l → x ∈ dd p l ∨ p = some x) := by
  induction l with
  | nil => intro p; simp [dd]
  | cons y r ih =>
    intro p
    rw [dd]
    obtain ⟨h1, h2⟩ := ih (some y)
    split
    · rename_i hp
      refine ⟨fun h => by simp [h1 h], fun h => ?_⟩
      rcases List.mem_cons.1 h with rfl | h
      · exact .inr hp
      · rcases h2 h with h | h
        · exact .inl h
        · injection h with h; subst h; exact .inr hp
    · refine ⟨fun h => ?_, fun h => ?_⟩
      · rcases List.mem_cons.1 h with rfl | h
        · simp
        · simp [h1 h]
      · rcases List.mem_cons.1 h with rfl | h
        · exact .inl (by simp)
        · rcases h2 h with h | h
          · exact .inl (by simp [h])
          · injection h with h; subst h; exact .inl (by simp)
theorem compactF_mem (x : Fact) (l : List Fact) : x ∈ compactF l ↔ x ∈ l := by
  obtain ⟨h1, h2⟩ := dd_mem x l none
  exact ⟨h1, fun h => (h2 h).elim id (fun h => by cases h)⟩
theorem dd_lt (l : List Fact) : ∀ p, l.Pairwise LeF → (∀ y, p = some y → ∀ x ∈ l, LeF y x) → (dd p l).Pairwise LtF ∧ ∀ y, p = some y → ∀ x ∈ dd p l, LtF y x := by
  induction l with
  | nil => intro p _ _; simp [dd]
  | cons z r ih =>
    intro p hs hp
    obtain ⟨h1, h2⟩ := List.pairwise_cons.1 hs
    obtain ⟨h3, h4⟩ := ih (some z) h2 (fun y hy x hx => by injection hy with hy; subst hy; exact h1 x hx)
    rw [dd]
    split
    · rename_i hz
      exact ⟨h3, fun y hy x hx => by rw [hz] at hy; injection hy with hy; subst hy; exact h4 z rfl x hx⟩
    · rename_i hz
      refine ⟨List.pairwise_cons.2 ⟨fun x hx => h4 z rfl x hx, h3⟩, fun y hy x hx => ?_⟩
      have hyz : LtF y z := by
        have hle := hp y hy z (by simp)
        have hne : ¬ y = z := fun e => hz (by rw [hy, e])
        unfold LeF at hle
        unfold LtF
        rcases hle with h | ⟨h, h'⟩
        · exact .inl h
        · by_cases e : y.2 = z.2
          · exact absurd (Prod.ext h e) hne
          · exact .inr ⟨h, by omega⟩
      rcases List.mem_cons.1 hx with rfl | hx
      · exact hyz
      · have := h4 z rfl x hx
        unfold LtF at *
        omega
theorem sortF_le (l : List Fact) : (sortF l).Pairwise LeF := by
  have h := List.pairwise_mergeSort (le := fun x y => !ltF y x) (by
    intro a b c h1 h2
    simp [ltF] at *
    omega) (by
    intro a b
    simp [ltF]
    omega) l
  refine List.Pairwise.imp ?_ h
  intro a b hab
  simp [ltF] at hab
  unfold LeF
  omega
theorem sortF_mem (x : Fact) (l : List Fact) : x ∈ sortF l ↔ x ∈ l := (List.mergeSort_perm l _).mem_iff

def tidyF (l : List Fact) : List Fact := compactF (sortF l)
theorem tidyF_mem (x : Fact) (l : List Fact) : x ∈ tidyF l ↔ x ∈ l := by rw [tidyF, compactF_mem, sortF_mem]
theorem tidyF_lt (l : List Fact) : (tidyF l).Pairwise LtF := (dd_lt (sortF l) none (sortF_le l) (fun y hy => by cases hy)).1
theorem dd_len : ∀ (l : List Fact) (p : Option Fact), (dd p l).length ≤ l.length
  | [], _ => Nat.le_refl _
  | y :: r, p => by
    rw [dd]
    have := dd_len r (some y)
    split
    · simp; omega
    · simp; omega
theorem tidyF_len (l : List Fact) : (tidyF l).length ≤ l.length := by
  have := dd_len (sortF l) none
  rw [sortF_length] at this
  exact this
/-- a partial state -/
def vF : Int → List Fact → Bool
  | _, [] => true
  | last, y :: r => decide (last < y.1 ∧ 0 ≤ y.2) && vF y.1 r
theorem valid_loop (l : List Fact) (hs : Sh l) : ∀ (r : List Fact) (n : Nat) (last : Int), l.drop n = r → n ≤ l.length → -1 ≤ last → (n = 0 → last = -1) → (∀ m, n = m + 1 → ∃ x, l[m]? = some x ∧ x.1 = last) → Rg (M_p_valid_L1_B l) (M_p_valid_L1_E l) r n () = some (vF last r)
  | [], _, _, _, _, _, _, _ => rfl
  | y :: r, n, last, hd, hn, hl, h0, hp => by
    rw [Rg, vF]
    obtain ⟨hy, hd', hlt⟩ := drop_cons hd
    have hih : 0 ≤ y.1 → Rg (M_p_valid_L1_B l) (M_p_valid_L1_E l) r ((n : Int) + 1) () = some (vF y.1 r) := fun h => valid_loop l hs r (n + 1) y.1 hd' hlt (by omega) (by omega) (fun m hm => ⟨y, by rw [show m = n by omega]; exact hy, rfl⟩)
    simp only [M_p_valid_L1_B, ixv, sel_dec]
    by_cases h1 : y.1 < 0
    · rw [if_pos h1, decide_eq_false (by omega)]; rfl
    · rw [if_neg h1]
      by_cases h3 : y.2 < 0
      · rw [if_pos h3, decide_eq_false (by omega)]; rfl
      · rw [if_neg h3]
        cases n with
        | zero =>
          have := h0 rfl
          rw [if_neg (by omega), decide_eq_true (by omega)]
          exact hih (by omega)
        | succ m =>
          obtain ⟨x, hx, hxl⟩ := hp m rfl
          rw [if_pos (by omega), w64 (by omega) (by have := hs; unfold Sh at this; omega), show (((m + 1 : Nat) : Int) - 1) = (m : Int) by omega, ix_at hx]
          by_cases h5 : x.1 ≥ y.1
          · rw [if_pos h5, decide_eq_false (by omega)]; rfl
          · rw [if_neg h5, decide_eq_true (by omega)]
            exact hih (by omega)
theorem valid_eq (l : List Fact) (hl : Sh l) : M_p_valid l = some (vF (-1) l) := by
  rw [M_p_valid, M_p_valid_L1_eq _ hl.lt]
  exact valid_loop l hl l 0 (-1) rfl (Nat.zero_le _) (by omega) (fun _ => rfl) (fun m hm => by omega)
theorem vF_iff : ∀ (l : List Fact) (last : Int), vF last l = true ↔ (∀ x ∈ l, last < x.1 ∧ 0 ≤ x.2) ∧ Asc l
  | [], last => by simp [vF, Asc]
  | y :: r, last => by
    rw [vF, Bool.and_eq_true, decide_eq_true_iff, vF_iff r y.1]
    unfold Asc
    rw [List.pairwise_cons]
    constructor
    · rintro ⟨h1, h2, h3⟩
      refine ⟨fun x hx => ?_, fun x hx => (h2 x hx).1, h3⟩
      rcases List.mem_cons.1 hx with rfl | hx
      · exact h1
      · have := h2 x hx; omega
    · rintro ⟨h1, h2, h3⟩
      exact ⟨h1 y (by simp), fun x hx => ⟨h2 x hx, (h1 x (by simp [hx])).2⟩, h3⟩
theorem vF_iff' (l : List Fact) : vF (-1) l = true ↔ Nonneg l ∧ Asc l := by
  rw [vF_iff]
  constructor
  · rintro ⟨h1, h2⟩
    exact ⟨fun x hx => ⟨by have := (h1 x hx).1; omega, (h1 x hx).2⟩, h2⟩
  · rintro ⟨h1, h2⟩
    exact ⟨fun x hx => ⟨by have := (h1 x hx).1; omega, (h1 x hx).2⟩, h2⟩
theorem propF_vF (vars : List Int) : ∀ (l : List Fact) (last : Int), propF vars last l = true → vF last l = true
  | [], _, _ => rfl
  | y :: r, last, h => by
    rw [propF, Bool.and_eq_true, decide_eq_true_iff] at h
    rw [vF, propF_vF vars r y.1 h.2, decide_eq_true ⟨h.1.1, h.1.2.2.1⟩]
    rfl
theorem propF_iff (vars : List Int) : ∀ (l : List Fact) (last : Int), propF vars last l = true ↔ vF last l = true ∧ ∀ x ∈ l, x.1 < vars.length ∧ x.2 < vars.getD x.1.toNat 0
  | [], last => by simp [propF, vF]
  | y :: r, last => by
    rw [propF, vF, Bool.and_eq_true, Bool.and_eq_true, decide_eq_true_iff, decide_eq_true_iff, propF_iff vars r y.1]
    constructor
    · rintro ⟨⟨a, b, c, d⟩, e, f⟩
      refine ⟨⟨⟨a, c⟩, e⟩, fun x hx => ?_⟩
      rcases List.mem_cons.1 hx with rfl | hx
      · exact ⟨b, d⟩
      · exact f x hx
    · rintro ⟨⟨⟨a, c⟩, e⟩, f⟩
      exact ⟨⟨a, (f y (by simp)).1, c, (f y (by simp)).2⟩, e, fun x hx => f x (by simp [hx])⟩
/-- no two values of one variable -/
def Compat (l : List Fact) : Prop := ∀ x ∈ l, ∀ y ∈ l, x.1 = y.1 → x.2 = y.2
theorem asc_compat {l : List Fact} (h : Asc l) : Compat l := fun x hx y hy e => by rw [asc_inj h hx hy e]
theorem tidyF_asc {l : List Fact} : Asc (tidyF l) ↔ Compat l := by
  constructor
  · intro h x hx y hy e
    exact asc_compat h x ((tidyF_mem x l).2 hx) y ((tidyF_mem y l).2 hy) e
  · intro h
    have h2 : ∀ x ∈ tidyF l, x ∈ l := fun x hx => (tidyF_mem x l).1 hx
    have h1 := tidyF_lt l
    generalize tidyF l = t at h1 h2
    induction t with
    | nil => exact List.Pairwise.nil
    | cons z r ih =>
      obtain ⟨a, b⟩ := List.pairwise_cons.1 h1
      refine List.pairwise_cons.2 ⟨fun x hx => ?_, ih b (fun x hx => h2 x (by simp [hx]))⟩
      have h3 := a x hx
      unfold LtF at h3
      rcases h3 with h3 | ⟨h3, h4⟩
      · exact h3
      · have := h z (h2 z (by simp)) x (h2 x (by simp [hx])) h3
        omega
theorem tidyF_valid {l : List Fact} (hn : Nonneg l) : vF (-1) (tidyF l) = true ↔ Compat l := by
  rw [vF_iff', tidyF_asc]
  exact ⟨fun h => h.2, fun h => ⟨fun x hx => hn x ((tidyF_mem x l).1 hx), h⟩⟩
theorem make_eq (l : List Fact) (hl : l.length * 16 ≤ 140737488355328) (hn : Nonneg l) : M_p_Make l = some (if vF (-1) (tidyF l) = true then (tidyF l, Er.nil) else ([], Er.no 2)) := by
  have hs : Sh l := by unfold Sh; omega
  have ht := tidyF_len l
  rw [M_p_Make, M_p_Make_L1_eq _ hs.lt, rg_all (p := fun _ => true) (c := none) (fun y hy i rc => by
    obtain ⟨h1, h2⟩ := hn y hy
    simp only [M_p_Make_L1_B, ixv, sel_dec]
    rw [if_neg (by omega), if_neg (by omega)]; simp), if_pos (by simp)]
  rw [M_p_Make_L1_E, ob1_some, osum_inl, M_cloneF, grd_t hl, ob1_some, M_sortF, grd_t (by omega), ob1_some, grd_t (sortF_length l), M_compactF, grd_t (by rw [sortF_length]; exact hl), ob1_some]
  have : compactF (sortF l) = tidyF l := rfl
  rw [this, grd_t (by omega), valid_eq _ (by unfold Sh; omega), ob1_some]
  cases vF (-1) (tidyF l) <;> rfl
/-- the union of two partial states, if they do not contradict each other -/
def joinO (a b : List Fact) : Option (List Fact) := if vF (-1) (tidyF (a ++ b)) = true then some (tidyF (a ++ b)) else none
def joinR (a b : List Fact) : List Fact × Bool := match joinO a b with | some p => (p, true) | none => ([], false)
theorem join_eq (a b : List Fact) (hl : (a.length + b.length) * 16 ≤ 140737488355328) (ha : vF (-1) a = true) (hb : vF (-1) b = true) : M_p_Join a b = some (joinR a b) := by
  have h1 := (vF_iff' a).1 ha
  have h2 := (vF_iff' b).1 hb
  have hlen : (a ++ b).length = a.length + b.length := List.length_append
  rw [M_p_Join, valid_eq _ (by unfold Sh; omega), ha, ob1_some, valid_eq _ (by unfold Sh; omega), hb]
  show ob1 (M_cloneF a) _ = _
  rw [M_cloneF, grd_t (by omega), ob1_some, grd_t (by omega), make_eq (a ++ b) (by omega) (fun x hx => by
    rcases List.mem_append.1 hx with hx | hx
    · exact h1.1 x hx
    · exact h2.1 x hx)]
  unfold joinR joinO
  split
  · rw [ob2_some, grd_t (by omega)]; rfl
  · rw [ob2_some, grd_t (by omega)]; rfl
theorem joinO_some {a b p : List Fact} (h : joinO a b = some p) : vF (-1) p = true ∧ ∀ x, x ∈ p ↔ x ∈ a ∨ x ∈ b := by
  unfold joinO at h
  split at h
  · rename_i h1
    injection h with h
    subst h
    exact ⟨h1, fun x => by rw [tidyF_mem, List.mem_append]⟩
  · cases h
theorem joinO_none {a b : List Fact} (ha : vF (-1) a = true) (hb : vF (-1) b = true) (h : joinO a b = none) : ¬ Compat (a ++ b) := by
  intro hc
  unfold joinO at h
  rw [if_pos ((tidyF_valid (fun x hx => by
    rcases List.mem_append.1 hx with hx | hx
    · exact ((vF_iff' a).1 ha).1 x hx
    · exact ((vF_iff' b).1 hb).1 x hx)).2 hc)] at h
  cases h
end Go.Proofs.YtohjegemooakpaaGreat.Am
/- Plain laws: regress.compare, BinarySearchFunc over a strictly ascending list. -/
namespace Go.Proofs.YtohjegemooakpaaGreat.Am
open Go.RowKit
theorem cmp_int_eq (a b : Int) : M_cmp_Compare_int a b = some (Lib.compareInt a b) := by
  have e : ∀ x : Int, M_cmp_isNaN_int x = some false := fun x => by simp [M_cmp_isNaN_int]
  rw [M_cmp_Compare_int, e, e]
  simp only [ob1_some, sel_ff, sel_dec]
  rcases compareInt_cases a b with ⟨h, hc⟩ | ⟨h, hc⟩ | ⟨h, hc⟩ <;> rw [hc]
  · rw [if_pos h]
  · rw [if_neg (by omega), if_neg (by omega)]
  · rw [if_neg (by omega), if_pos h]
theorem or2_eq (a b : Int) : M_cmp_Or_int [a, b] = some (if a ≠ 0 then a else b) := by
  rw [M_cmp_Or_int, M_cmp_Or_int_L1_eq [a, b] (by simp)]
  simp only [Rg, M_cmp_Or_int_L1_B, M_cmp_Or_int_L1_E, ixv]
  by_cases ha : a = 0
  · subst ha
    rw [show ((0 : Int) != 0) = false from rfl, sel_ff, if_neg (by simp)]
    by_cases hb : b = 0
    · subst hb; rfl
    · rw [show (b != 0) = true from by simp [hb], sel_tt]
  · rw [show (a != 0) = true from by simp [ha], sel_tt, if_pos ha]
theorem rcmp1_eq (x y : Fact) : M_g_compare_1 x y = some (cmpF x y) := by
  rw [M_g_compare_1, cmp_int_eq, ob1_some, cmp_int_eq, ob1_some, or2_eq, ob1_some]
  rfl
theorem cfunc_loop (a b : List Fact) : ∀ (r : List Fact) (n : Nat), a.drop n = r → n ≤ a.length → n ≤ b.length →
    ob1 (Rg (M_s_CompareFunc_Fact_L1_B a b M_g_compare_1) (M_s_CompareFunc_Fact_L1_E a b M_g_compare_1) r n ())
      (osum (fun _ => sel (decide (((a.map cF).length : Int) < ((b.map cF).length : Int))) (some (-1)) (some 0)) (fun r13 => some r13)) = some (cmpLF r (b.drop n)) := by
  intro r
  induction r with
  | nil =>
    intro n h hn hm
    have hn' : n = a.length := by have := congrArg List.length h; simp at this; omega
    subst hn'
    rw [Rg, M_s_CompareFunc_Fact_L1_E, ob1_some, osum_inl, sel_dec, List.length_map, List.length_map]
    by_cases hlt : a.length < b.length
    · obtain ⟨y, hy, hd⟩ := drop_at hlt
      rw [if_pos (by omega), hd, cmpLF]
    · rw [if_neg (by omega), show b.drop a.length = [] from List.drop_eq_nil_of_le (by omega), cmpLF]
  | cons y r ih =>
    intro n h hn hm
    obtain ⟨hy, hd, hlt⟩ := drop_cons h
    rw [Rg, M_s_CompareFunc_Fact_L1_B, ixv]
    by_cases hge : n < b.length
    · obtain ⟨z, hz, hdz⟩ := drop_at hge
      rw [sel_dec, if_neg (by rw [List.length_map]; omega), ix_at hz, rcmp1_eq, ob1_some, hdz, cmpLF]
      by_cases hc : cmpF y z = 0
      · rw [show (cmpF y z != 0) = false from by simp [hc], sel_ff, if_neg (by simp [hc])]
        exact ih (n + 1) hd hlt hge
      · rw [show (cmpF y z != 0) = true from by simp [hc], sel_tt, ob1_some, osum_inr, if_pos hc]
    · rw [sel_dec, List.length_map, if_pos (by omega), ob1_some, osum_inr, show b.drop n = [] from List.drop_eq_nil_of_le (by omega), cmpLF]
theorem compare_eq (a b : List Fact) (ha : Sh a) : M_g_compare a b = some (cmpLF a b) := by
  have h := cfunc_loop a b a 0 rfl (Nat.zero_le _) (Nat.zero_le _)
  rw [M_g_compare, M_s_CompareFunc_Fact, M_s_CompareFunc_Fact_L1_eq a b _ ha.lt]
  rw [List.drop_zero] at h
  exact (congrArg (fun o => ob1 o (fun z1 => some z1)) h)
-- ascending lists of lists
def SortedL (l : List (List Fact)) : Prop := l.Pairwise fun a b => cmpLF a b < 0
theorem cmpLF_lt_gt {a b : List Fact} : cmpLF a b < 0 ↔ 0 < cmpLF b a := by rw [cmpLF_anti a b]; omega
theorem mid_eq {a b : Nat} (h : a + b < 4611686018427387904) : IntKind.i64.wrap (Int.fdiv (IntKind.u64.wrap (IntKind.i64.wrap ((a : Int) + b))) 2) = (((a + b) / 2 : Nat) : Int) := by
  rw [w64 (z := (a : Int) + b) (by omega) (by omega)]
  have e : IntKind.u64.wrap ((a : Int) + b) = (a : Int) + b := by
    show ((a : Int) + b) % _ = _
    exact Int.emod_eq_of_lt (by omega) (by show _ < (18446744073709551616 : Int); omega)
  rw [e, Int.fdiv_eq_ediv_of_nonneg _ (by decide), w64 (by omega) (by omega)]
  omega
theorem bs_loop (l : List (List Fact)) (z : List Fact) (hl : l.length < 1000000) (hsh : ∀ x ∈ l, Sh x) (hs : SortedL l) :
    ∀ (k : Nat) (lo hi : Nat), lo ≤ hi → hi ≤ l.length → hi - lo < 2 ^ k → (∀ (j : Nat) (y : List Fact), j < lo → l[j]? = some y → cmpLF y z < 0) → (∀ (j : Nat) (y : List Fact), hi ≤ j → l[j]? = some y → ¬ cmpLF y z < 0) → ∀ m : Nat,
    ∃ p : Nat, M_s_BinarySearchFunc_Fact_L1 l z M_g_compare (k + 1 + m) lo hi = some (p : Int) ∧ p ≤ l.length ∧ (∀ (j : Nat) (y : List Fact), j < p → l[j]? = some y → cmpLF y z < 0) ∧ (∀ (j : Nat) (y : List Fact), p ≤ j → l[j]? = some y → ¬ cmpLF y z < 0) := by
  intro k
  induction k with
  | zero =>
    intro lo hi h1 h2 h3 h4 h5 m
    obtain rfl : lo = hi := by omega
    refine ⟨lo, ?_, h2, h4, h5⟩
    rw [show 0 + 1 + m = m + 1 from by omega, M_s_BinarySearchFunc_Fact_L1, decide_ge, sel_ff]
  | succ k ih =>
    intro lo hi h1 h2 h3 h4 h5 m
    rw [show k + 1 + 1 + m = (k + 1 + m) + 1 from by omega, M_s_BinarySearchFunc_Fact_L1]
    by_cases hlt : lo < hi
    · obtain ⟨y, hy, -⟩ := drop_at (l := l) (n := (lo + hi) / 2) (by omega)
      rw [decide_lt hlt, sel_tt, mid_eq (by omega), ix_at hy, compare_eq y z (hsh y (List.mem_of_getElem? hy)), ob1_some, sel_dec]
      have hp : 2 ^ (k + 1) = 2 * 2 ^ k := by rw [Nat.pow_succ]; omega
      by_cases hc : cmpLF y z < 0
      · rw [if_pos hc, w64s (by omega)]
        refine ih _ _ (by omega) h2 (by omega) (fun j u hj hu => ?_) h5 m
        rcases Nat.lt_or_eq_of_le (Nat.lt_succ_iff.1 hj) with hj' | rfl
        · obtain ⟨hj1, hj2⟩ := List.getElem?_eq_some_iff.1 hu
          obtain ⟨hy1, hy2⟩ := List.getElem?_eq_some_iff.1 hy
          have := List.pairwise_iff_getElem.1 hs j _ hj1 hy1 hj'
          rw [hj2, hy2] at this
          exact cmpLF_trans this hc
        · rw [hy] at hu; cases hu; exact hc
      · rw [if_neg hc]
        refine ih _ _ (by omega) (by omega) (by omega) h4 (fun j u hj hu hn => ?_) m
        rcases Nat.lt_or_eq_of_le hj with hj' | rfl
        · obtain ⟨hj1, hj2⟩ := List.getElem?_eq_some_iff.1 hu
          obtain ⟨hy1, hy2⟩ := List.getElem?_eq_some_iff.1 hy
          have := List.pairwise_iff_getElem.1 hs _ j hy1 hj1 hj'
          rw [hj2, hy2] at this
          exact hc (cmpLF_trans this hn)
        · rw [hy] at hu; cases hu; exact hc hn
    · obtain rfl : lo = hi := by omega
      exact ⟨lo, by rw [decide_ge, sel_ff], h2, h4, h5⟩
theorem bsearch_eq (l : List (List Fact)) (z : List Fact) (g : Nat) (hg : 21 ≤ g) (hl : l.length < 1000000) (hsh : ∀ x ∈ l, Sh x) (hs : SortedL l) :
    ∃ (p : Nat) (f : Bool), M_s_BinarySearchFunc_Fact g l z M_g_compare = some ((p : Int), f) ∧ p ≤ l.length ∧ (f = true ↔ z ∈ l) ∧ (f = false → SortedL (l.take p ++ z :: l.drop p)) := by
  obtain ⟨p, hp, hpl, h1, h2⟩ := bs_loop l z hl hsh hs 20 0 l.length (Nat.zero_le _) (Nat.le_refl _) (by rw [Nat.sub_zero]; exact Nat.lt_trans hl (by decide)) (fun j y h => by omega) (fun j y hj hy => by rw [List.getElem?_eq_none hj] at hy; cases hy) (g - 21)
  rw [show 20 + 1 + (g - 21) = g from by omega] at hp
  have hlow : ∀ y ∈ l.take p, cmpLF y z < 0 := fun y hy => by
    obtain ⟨j, hj⟩ := List.mem_iff_getElem?.1 hy
    rw [List.getElem?_take] at hj
    split at hj
    · exact h1 j y ‹_› hj
    · cases hj
  have hhigh : ∀ y ∈ l.drop p, ¬ cmpLF y z < 0 := fun y hy => by
    obtain ⟨j, hj⟩ := List.mem_iff_getElem?.1 hy
    rw [List.getElem?_drop] at hj
    exact h2 _ y (by omega) hj
  have hsplit : l.take p ++ l.drop p = l := List.take_append_drop _ _
  have hpw : (l.take p ++ l.drop p).Pairwise fun a b => cmpLF a b < 0 := by rw [hsplit]; exact hs
  obtain ⟨q1, q2, q3⟩ := List.pairwise_append.1 hpw
  have hmem : z ∈ l ↔ z ∈ l.drop p := by
    constructor
    · intro h
      rw [← hsplit] at h
      rcases List.mem_append.1 h with h | h
      · have := hlow z h; rw [cmpLF_zero.2 rfl] at this; omega
      · exact h
    · exact List.mem_of_mem_drop
  have hput : z ∉ l → SortedL (l.take p ++ z :: l.drop p) := fun hn => by
    refine List.pairwise_append.2 ⟨q1, List.pairwise_cons.2 ⟨fun y hy => ?_, q2⟩, fun a ha b hb => ?_⟩
    · have h3 := hhigh y hy
      have h4 : cmpLF y z ≠ 0 := fun e => hn (hmem.2 (by rw [← cmpLF_zero.1 e]; exact hy))
      rw [cmpLF_lt_gt]; omega
    · rcases List.mem_cons.1 hb with rfl | hb
      · exact hlow a ha
      · exact q3 a ha b hb
  rw [M_s_BinarySearchFunc_Fact, List.length_map]
  have hp' : M_s_BinarySearchFunc_Fact_L1 l z M_g_compare g 0 (l.length : Int) = some (p : Int) := hp
  rw [hp', ob1_some]
  by_cases hlt : p < l.length
  · obtain ⟨y, hy, hd⟩ := drop_at hlt
    rw [decide_lt hlt, sel_tt, ix_at hy, compare_eq y z (hsh y (List.mem_of_getElem? hy)), ob1_some]
    have hiff : (cmpLF y z == 0) = true ↔ z ∈ l := by
      rw [beq_iff_eq, cmpLF_zero, hmem, hd]
      constructor
      · rintro rfl; simp
      · intro h
        rcases List.mem_cons.1 h with e | h
        · exact e.symm
        · rw [hd] at q2
          have := (List.pairwise_cons.1 q2).1 z h
          exact absurd this (hhigh y (by rw [hd]; simp))
    refine ⟨p, _, rfl, hpl, hiff, fun hf => hput fun hz => ?_⟩
    rw [hiff.2 hz] at hf; cases hf
  · obtain rfl : p = l.length := by omega
    have hn : z ∉ l := fun h => by have := hmem.1 h; rw [List.drop_length] at this; cases this
    exact ⟨l.length, false, by rw [decide_ge, sel_ff], hpl, ⟨(fun h => nomatch h), (fun h => absurd h hn)⟩, fun _ => hput hn⟩
end Go.Proofs.YtohjegemooakpaaGreat.Am
