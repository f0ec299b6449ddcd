/- Texts of the proof, part 6 of 7. -/
import Derived.Test.YtohjegemooakpaaGreatB2
import Derived.Test.YtohjegemooakpaaGreatB5
import Derived.Test.YtohjegemooakpaaGreatB4
import Derived.KernelRfl
import Derived.Test.YtohjegemooakpaaGreatB1
import Derived.Deep.Slices
import Derived.Deep.Fields
import Derived.ChangeSame
import Derived.SizedLaws
import Derived.Lib.SmallJoins
import Derived.Below
import Derived.OpenShut
import Derived.Carry
namespace Go.Proofs.YtohjegemooakpaaGreat.Am
set_option maxHeartbeats 16000000
set_option maxRecDepth 100000
open Go.RowKit
def M_ce_formed_L1 (a0 : List Fact) : Nat → Int → Option (Bool)
  | 0, _ => none
  | k6 + 1, v5 =>
    sel (decide (v5 < ((a0.map cF).length : Int)))
     (ix a0 v5 (fun y7 =>
       sel (decide (y7.1 < 0))
        (some false)
        (sel (decide (y7.1 ≥ 64))
          (some false)
          (sel (decide (y7.2 < 0))
            (some false)
            (sel (decide (y7.2 ≥ 64))
              (some false)
              (sel (decide (v5 > 0))
                (ix a0 (IntKind.i64.wrap (v5 - 1)) (fun y8 =>
                  sel (decide (y8.1 ≥ y7.1))
                   (some false)
                   (M_ce_formed_L1 a0 k6 (IntKind.i64.wrap (v5 + 1)))))
                (M_ce_formed_L1 a0 k6 (IntKind.i64.wrap (v5 + 1)))))))))
     (some true)
def M_ce_formed (a0 : List Fact) : Option (Bool) :=
  M_ce_formed_L1 a0 ((((a0.map cF).length : Int)).toNat + 1) 0
theorem A_ce_formed (a0 : List Fact) {r1 : Bool} (h : M_ce_formed a0 = some r1) : ACall cx 47 [.sl 2 (a0.map cF)] (.c (.bool r1)) := by
  refine aOf Tryz.func47 rfl (by decide) rfl (Nat.le_of_ble_eq_true rfl) ?_; intro _; unfold M_ce_formed at h; refine aSR ?_; intro _; refine dr ?_; refine aSq ?_; refine aSR ?_; intro _; refine dr ?_; refine aBk ?_; refine awp_loop (α := Nat × Int) (fun x => mkS 46 [(0, .sl 2 (a0.map cF)), (5, .sl 2 (a0.map cF)), (6, .c (.int .i64 ((a0.map cF).length : Int))), (7, .c (.int .i64 x.2))] []) (fun x => M_ce_formed_L1 a0 x.1 x.2 = some r1) (fun x => x.1) ((((a0.map cF).length : Int)).toNat + 1, 0) h ?_ ?_
  · exact ca_0
  · intro x1 h; intro _; obtain ⟨k6, m2, h⟩ := succ_of (f := fun n => M_ce_formed_L1 a0 n x1.2) rfl h; replace h : M_ce_formed_L1 a0 (k6 + 1) x1.2 = some r1 := h; rw [M_ce_formed_L1] at h; refine aSR ?_; intro _; refine dr ?_; refine aSq ?_; refine aCd ?_; intro _; refine spl h (fun c3 h => ?_) (fun c3 h => ?_)
    · refine aSk ?_; refine aSq ?_; refine aBk ?_; refine aSR ?_; intro _; obtain ⟨y7, w4, q5, h⟩ := ix_ok h; refine Exists.intro (cF y7) (And.intro (map_at' w4) ?_); intro _; refine pr ?_; refine dr ?_; refine aSR ?_; intro _; refine spf h (fun c6 h => ?_) (fun c6 h => ?_)
      · intro _; refine spf h (fun c7 h => ?_) (fun c7 h => ?_)
        · intro _; refine spf h (fun c8 h => ?_) (fun c8 h => ?_)
          · intro _; refine spf h (fun c9 h => ?_) (fun c9 h => ?_)
            · intro _; refine spl h (fun c10 h => ?_) (fun c10 h => ?_)
              · intro _; obtain ⟨y8, w11, q12, h⟩ := ix_ok h; refine Exists.intro (cF y8) (And.intro (map_at' w11) ?_); intro _; refine pr ?_; refine dr ?_; refine aCd ?_; intro _; refine spl h (fun c13 h => ?_) (fun c13 h => ?_)
                · refine aSR ?_; intro _; refine dr ?_; refine aRt ?_; intro _; obtain rfl := inj1 h; exact ca_0
                · refine aSk ?_; refine aRg ?_; intro _; refine dr ?_; refine ⟨(k6, (IntKind.i64.wrap (x1.2 + 1))), h, ltS m2, ?_⟩; exact ca_0
              · intro _; refine dr ?_; refine aCd ?_; intro _; refine litF ?_; refine aSk ?_; refine aRg ?_; intro _; refine dr ?_; refine ⟨(k6, (IntKind.i64.wrap (x1.2 + 1))), h, ltS m2, ?_⟩; exact ca_0
            · intro _; refine dr ?_; refine aCd ?_; intro _; refine litT ?_; refine aSR ?_; intro _; refine dr ?_; refine aRt ?_; intro _; obtain rfl := inj1 h; exact ca_0
          · intro _; refine dr ?_; refine aCd ?_; intro _; refine litT ?_; refine aSR ?_; intro _; refine dr ?_; refine aRt ?_; intro _; obtain rfl := inj1 h; exact ca_0
        · intro _; refine dr ?_; refine aCd ?_; intro _; refine litT ?_; refine aSR ?_; intro _; refine dr ?_; refine aRt ?_; intro _; obtain rfl := inj1 h; exact ca_0
      · intro _; refine dr ?_; refine aCd ?_; intro _; refine litT ?_; refine aSR ?_; intro _; refine dr ?_; refine aRt ?_; intro _; obtain rfl := inj1 h; exact ca_0
    · refine aEx ?_; refine aSR ?_; intro _; refine dr ?_; refine aRt ?_; intro _; obtain rfl := inj1 h; exact ca_0
def M_ce_Check_L1 (a0 : GCertificate) : Nat → Int → Option (Unit ⊕ Er)
  | 0, _ => none
  | k20 + 1, v19 =>
    sel (decide (v19 < ((a0.Nogoods.map cN).length : Int)))
     (ix a0.Nogoods v19 (fun y21 =>
       ob1 (M_ce_formed y21.1) (fun z22 =>
        sel (!z22)
         (some (.inr (Er.no 2)))
         (M_ce_Check_L1 a0 k20 (IntKind.i64.wrap (v19 + 1))))))
     (some (.inl ()))
def M_ce_Check_L2 (a0 : GCertificate) : Nat → Int → Option (Er)
  | 0, _ => none
  | k27 + 1, v26 =>
    sel (decide (v26 < ((a0.Nogoods.map cN).length : Int)))
     (ix a0.Nogoods v26 (fun y28 =>
       sel (decide (y28.2 < 0))
        (some (Er.no 1))
        (sel (decide (a0.Bound ≥ 0))
          (sel (decide (y28.2 ≥ a0.Bound))
            (some (Er.no 1))
            (sel (decide (a0.Bound < 0))
              (sel (y28.2 != 0)
                (some (Er.no 1))
                (M_ce_Check_L2 a0 k27 (IntKind.i64.wrap (v26 + 1))))
              (M_ce_Check_L2 a0 k27 (IntKind.i64.wrap (v26 + 1)))))
          (sel (decide (a0.Bound < 0))
            (sel (y28.2 != 0)
              (some (Er.no 1))
              (M_ce_Check_L2 a0 k27 (IntKind.i64.wrap (v26 + 1))))
            (M_ce_Check_L2 a0 k27 (IntKind.i64.wrap (v26 + 1)))))))
     (some Er.nil)
def M_ce_Check (a0 : GCertificate) : Option (Er) :=
  ob1 (sel (decide (a0.Bound < (-1)))
    (some (.inr (Er.no 1)))
    (sel (decide (a0.Bound > 1099511627776))
      (some (.inr (Er.no 1)))
      (some (.inl ()))) : Option (Unit ⊕ Er))
   (osum
   (fun _ => sel (decide (((a0.Nogoods.map cN).length : Int) > 4096))
      (some (Er.no 5))
      (ob1 (M_ce_Check_L1 a0 ((((a0.Nogoods.map cN).length : Int)).toNat + 1) 0 : Option (Unit ⊕ Er))
        (osum
        (fun _ => M_ce_Check_L2 a0 ((((a0.Nogoods.map cN).length : Int)).toNat + 1) 0)
        (fun r12 => some r12))))
   (fun r1 => some r1))
theorem A_ce_Check (a0 : GCertificate) {r1 : Er} (h : M_ce_Check a0 = some r1) : ACall cx 19 [.agg [.c (.int .i64 a0.Bound), .sl 2 (a0.Nogoods.map cN)]] (eA r1) := by
  refine aOf Tryz.func19 rfl (by decide) rfl (Nat.le_of_ble_eq_true rfl) ?_; intro _; unfold M_ce_Check at h; refine aSR ?_; intro _; refine dr ?_; obtain ⟨o1, h, hK2⟩ := ob1_ok h; refine awp_cut (α := Unit) (fun _ => mkS 68 [(1, .ptr 1 0 0 0)] [(1, ⟨31, 2, true, [[.c (.int .i64 a0.Bound), .sl 2 (a0.Nogoods.map cN)]]⟩)]) (fun v => o1 = (.inl v)) ?_ ?_
  · refine aSR ?_; intro _; refine spf h (fun c3 h => ?_) (fun c3 h => ?_)
    · intro _; refine dr ?_; refine aCd ?_; intro _; refine spl h (fun c4 h => ?_) (fun c4 h => ?_)
      · refine aSR ?_; intro _; refine dr ?_; refine aRt ?_; have j5 := Option.some.inj h; subst j5; replace h := (osum_r hK2); intro _; obtain rfl := inj1 h; exact ca_0
      · refine aSk ?_; refine ⟨(), (Option.some.inj h).symm, ?_⟩; exact ca_0
    · intro _; refine dr ?_; refine aCd ?_; intro _; refine litT ?_; refine aSR ?_; intro _; refine dr ?_; refine aRt ?_; have j6 := Option.some.inj h; subst j6; replace h := (osum_r hK2); intro _; obtain rfl := inj1 h; exact ca_0
  · rintro _ ho; have ho := ho.symm; subst ho; intro _; replace h := (osum_l hK2); refine aSq ?_; refine aSR ?_; intro _; refine dr ?_; refine aCd ?_; intro _; refine spl h (fun c7 h => ?_) (fun c7 h => ?_)
    · refine aSR ?_; intro _; refine dr ?_; refine aRt ?_; intro _; obtain rfl := inj1 h; exact ca_0
    · refine aSk ?_; obtain ⟨o8, h, hK9⟩ := ob1_ok h; refine awp_cut (α := Unit) (fun _ => mkS 68 [(1, .ptr 1 0 0 0)] [(1, ⟨31, 2, true, [[.c (.int .i64 a0.Bound), .sl 2 (a0.Nogoods.map cN)]]⟩)]) (fun v => o8 = (.inl v)) ?_ ?_
      · refine aSR ?_; intro _; refine dr ?_; refine aBk ?_; refine awp_loop (α := Nat × Int) (fun x => mkS 68 [(1, .ptr 1 0 0 0), (22, .sl 2 (a0.Nogoods.map cN)), (23, .c (.int .i64 ((a0.Nogoods.map cN).length : Int))), (24, .c (.int .i64 x.2))] [(1, ⟨31, 2, true, [[.c (.int .i64 a0.Bound), .sl 2 (a0.Nogoods.map cN)]]⟩)]) (fun x => M_ce_Check_L1 a0 x.1 x.2 = some o8) (fun x => x.1) ((((a0.Nogoods.map cN).length : Int)).toNat + 1, 0) h ?_ ?_
        · exact ca_0
        · intro x10 h; intro _; obtain ⟨k20, m11, h⟩ := succ_of (f := fun n => M_ce_Check_L1 a0 n x10.2) rfl h; replace h : M_ce_Check_L1 a0 (k20 + 1) x10.2 = some o8 := h; rw [M_ce_Check_L1] at h; refine aSR ?_; intro _; refine dr ?_; refine aSq ?_; refine aCd ?_; intro _; refine spl h (fun c12 h => ?_) (fun c12 h => ?_)
          · refine aSk ?_; refine aSq ?_; refine aBk ?_; refine aSR ?_; intro _; obtain ⟨y21, w13, q14, h⟩ := ix_ok h; refine Exists.intro (cN y21) (And.intro (map_at' w13) ?_); intro _; refine pr ?_; refine dr ?_; refine aSR ?_; intro _; obtain ⟨z22, u15, h⟩ := ob1_ok h; refine cl rfl (A_ce_formed y21.1 u15) ?_; intro _; refine dr ?_; refine aCd ?_; intro _; refine spl h (fun c16 h => ?_) (fun c16 h => ?_)
            · refine aSR ?_; intro _; refine dr ?_; refine aRt ?_; have j17 := Option.some.inj h; subst j17; replace h := (osum_r hK9); intro _; obtain rfl := inj1 h; exact ca_0
            · refine aSk ?_; refine aRg ?_; intro _; refine dr ?_; refine ⟨(k20, (IntKind.i64.wrap (x10.2 + 1))), h, ltS m11, ?_⟩; exact ca_0
          · refine aEx ?_; refine ⟨(), (Option.some.inj h).symm, ?_⟩; exact ca_0
      · rintro _ ho; have ho := ho.symm; subst ho; intro _; replace h := (osum_l hK9); refine aSq ?_; refine aSR ?_; intro _; refine dr ?_; refine aBk ?_; refine awp_loop (α := Nat × Int) (fun x => mkS 68 [(1, .ptr 1 0 0 0), (35, .sl 2 (a0.Nogoods.map cN)), (36, .c (.int .i64 ((a0.Nogoods.map cN).length : Int))), (37, .c (.int .i64 x.2))] [(1, ⟨31, 2, true, [[.c (.int .i64 a0.Bound), .sl 2 (a0.Nogoods.map cN)]]⟩)]) (fun x => M_ce_Check_L2 a0 x.1 x.2 = some r1) (fun x => x.1) ((((a0.Nogoods.map cN).length : Int)).toNat + 1, 0) h ?_ ?_
        · exact ca_0
        · intro x18 h; intro _; obtain ⟨k27, m19, h⟩ := succ_of (f := fun n => M_ce_Check_L2 a0 n x18.2) rfl h; replace h : M_ce_Check_L2 a0 (k27 + 1) x18.2 = some r1 := h; rw [M_ce_Check_L2] at h; refine aSR ?_; intro _; refine dr ?_; refine aSq ?_; refine aCd ?_; intro _; refine spl h (fun c20 h => ?_) (fun c20 h => ?_)
          · refine aSk ?_; refine aSq ?_; refine aBk ?_; refine aSR ?_; intro _; obtain ⟨y28, w21, q22, h⟩ := ix_ok h; refine Exists.intro (cN y28) (And.intro (map_at' w21) ?_); intro _; refine pr ?_; refine dr ?_; refine aSR ?_; intro _; refine spf h (fun c23 h => ?_) (fun c23 h => ?_)
            · intro _; refine spl h (fun c24 h => ?_) (fun c24 h => ?_)
              · intro _; refine spf h (fun c25 h => ?_) (fun c25 h => ?_)
                · intro _; refine spl h (fun c26 h => ?_) (fun c26 h => ?_)
                  · intro _; refine dr ?_; refine aCd ?_; intro _; refine spl h (fun c27 h => ?_) (fun c27 h => ?_)
                    · refine aSR ?_; intro _; refine dr ?_; refine aRt ?_; intro _; obtain rfl := inj1 h; exact ca_0
                    · refine aSk ?_; refine aRg ?_; intro _; refine dr ?_; refine ⟨(k27, (IntKind.i64.wrap (x18.2 + 1))), h, ltS m19, ?_⟩; exact ca_0
                  · intro _; refine dr ?_; refine aCd ?_; intro _; refine litF ?_; refine aSk ?_; refine aRg ?_; intro _; refine dr ?_; refine ⟨(k27, (IntKind.i64.wrap (x18.2 + 1))), h, ltS m19, ?_⟩; exact ca_0
                · intro _; refine dr ?_; refine aCd ?_; intro _; refine litT ?_; refine aSR ?_; intro _; refine dr ?_; refine aRt ?_; intro _; obtain rfl := inj1 h; exact ca_0
              · intro _; refine spl h (fun c28 h => ?_) (fun c28 h => ?_)
                · intro _; refine dr ?_; refine aCd ?_; intro _; refine spl h (fun c29 h => ?_) (fun c29 h => ?_)
                  · refine aSR ?_; intro _; refine dr ?_; refine aRt ?_; intro _; obtain rfl := inj1 h; exact ca_0
                  · refine aSk ?_; refine aRg ?_; intro _; refine dr ?_; refine ⟨(k27, (IntKind.i64.wrap (x18.2 + 1))), h, ltS m19, ?_⟩; exact ca_0
                · intro _; refine dr ?_; refine aCd ?_; intro _; refine litF ?_; refine aSk ?_; refine aRg ?_; intro _; refine dr ?_; refine ⟨(k27, (IntKind.i64.wrap (x18.2 + 1))), h, ltS m19, ?_⟩; exact ca_0
            · intro _; refine dr ?_; refine aCd ?_; intro _; refine litT ?_; refine aSR ?_; intro _; refine dr ?_; refine aRt ?_; intro _; obtain rfl := inj1 h; exact ca_0
          · refine aEx ?_; refine aSR ?_; intro _; refine dr ?_; refine aRt ?_; intro _; obtain rfl := inj1 h; exact ca_0
def M_ce_Proper_L1 (a0 : List Int) (a1 : GCertificate) : Nat → Int → Option (Er)
  | 0, _ => none
  | k9 + 1, v8 =>
    sel (decide (v8 < ((a1.Nogoods.map cN).length : Int)))
     (ix a1.Nogoods v8 (fun y10 =>
       ob1 (M_task_Facts a0 y10.1) (fun z11 =>
        sel (!z11)
         (some (Er.no 2))
         (M_ce_Proper_L1 a0 a1 k9 (IntKind.i64.wrap (v8 + 1))))))
     (some Er.nil)
def M_ce_Proper (a0 : List Int) (a1 : GCertificate) : Option (Er) :=
  ob1 (M_ce_Check a1) (fun z1 =>
   erM z1
    (M_ce_Proper_L1 a0 a1 ((((a1.Nogoods.map cN).length : Int)).toNat + 1) 0)
    (fun e2 => some (Er.no e2)))
theorem A_ce_Proper (a0 : List Int) (a1 : GCertificate) {r1 : Er} (h : M_ce_Proper a0 a1 = some r1) : ACall cx 83 [.sl 1 (a0.map cI), .agg [.c (.int .i64 a1.Bound), .sl 2 (a1.Nogoods.map cN)]] (eA r1) := by
  refine aOf Tryz.func83 rfl (by decide) rfl (Nat.le_of_ble_eq_true rfl) ?_; intro _; unfold M_ce_Proper at h; refine aSR ?_; intro _; refine dr ?_; refine aSq ?_; refine aSR ?_; intro _; obtain ⟨z1, u1, h⟩ := ob1_ok h; refine cl rfl (A_ce_Check a1 u1) ?_; intro _; refine dr ?_; refine aSq ?_; rcases z1 with _ | e2
  · replace h := erM_nil h; refine aRg ?_; intro _; refine dr ?_; refine aCd ?_; intro _; refine litF ?_; refine aSk ?_; refine aSq ?_; refine aSR ?_; intro _; refine dr ?_; refine aBk ?_; refine awp_loop (α := Nat × Int) (fun x => mkS 27 [(0, .sl 1 (a0.map cI)), (14, .sl 2 (a1.Nogoods.map cN)), (15, .c (.int .i64 ((a1.Nogoods.map cN).length : Int))), (16, .c (.int .i64 x.2))] []) (fun x => M_ce_Proper_L1 a0 a1 x.1 x.2 = some r1) (fun x => x.1) ((((a1.Nogoods.map cN).length : Int)).toNat + 1, 0) h ?_ ?_
    · exact ca_0
    · intro x2 h; intro _; obtain ⟨k9, m3, h⟩ := succ_of (f := fun n => M_ce_Proper_L1 a0 a1 n x2.2) rfl h; replace h : M_ce_Proper_L1 a0 a1 (k9 + 1) x2.2 = some r1 := h; rw [M_ce_Proper_L1] at h; refine aSR ?_; intro _; refine dr ?_; refine aSq ?_; refine aCd ?_; intro _; refine spl h (fun c4 h => ?_) (fun c4 h => ?_)
      · refine aSk ?_; refine aSq ?_; refine aBk ?_; refine aSR ?_; intro _; obtain ⟨y10, w5, q6, h⟩ := ix_ok h; refine Exists.intro (cN y10) (And.intro (map_at' w5) ?_); intro _; refine pr ?_; refine dr ?_; refine aSR ?_; intro _; obtain ⟨z11, u7, h⟩ := ob1_ok h; refine cl rfl (A_task_Facts a0 y10.1 u7) ?_; intro _; refine dr ?_; refine aCd ?_; intro _; refine spl h (fun c8 h => ?_) (fun c8 h => ?_)
        · refine aSR ?_; intro _; refine dr ?_; refine aRt ?_; intro _; obtain rfl := inj1 h; exact ca_0
        · refine aSk ?_; refine aRg ?_; intro _; refine dr ?_; refine ⟨(k9, (IntKind.i64.wrap (x2.2 + 1))), h, ltS m3, ?_⟩; exact ca_0
      · refine aEx ?_; refine aSR ?_; intro _; refine dr ?_; refine aRt ?_; intro _; obtain rfl := inj1 h; exact ca_0
  · replace h := erM_no h; refine aRg ?_; intro _; refine dr ?_; refine aCd ?_; intro _; refine litT ?_; refine aSR ?_; intro _; refine dr ?_; refine aRt ?_; intro _; obtain rfl := inj1 h; exact ca_0
def M_ck_counting_L1 (a0 : GChecker) (a1 : Int) : Nat → Int → (List (List Fact)) → Option (List (List Fact))
  | 0, _, _ => none
  | k7 + 1, v5, v6 =>
    sel (decide (v5 < ((a0.c.Nogoods.map cN).length : Int)))
     (ix a0.c.Nogoods v5 (fun y8 =>
       sel (decide (y8.2 ≤ a1))
        (grd ((v6.length + 1) * 24 ≤ 140737488355328) (M_ck_counting_L1 a0 a1 k7 (IntKind.i64.wrap (v5 + 1)) (v6 ++ [y8.1])))
        (M_ck_counting_L1 a0 a1 k7 (IntKind.i64.wrap (v5 + 1)) v6)))
     (grd (v6.length ≤ 140737488355328) (some v6))
def M_ck_counting (a0 : GChecker) (a1 : Int) : Option (List (List Fact)) :=
  M_ck_counting_L1 a0 a1 ((((a0.c.Nogoods.map cN).length : Int)).toNat + 1) 0 []
theorem A_ck_counting (a0 : GChecker) (a1 : Int) {r1 : List (List Fact)} (h : M_ck_counting a0 a1 = some r1) : ACallG cx 102 [.ptr 29 0 0 0, .c (.int .i64 a1)] [(29, ⟨130, 7, true, [[.sl 1 (a0.t.Vars.map cI), .sl 1 (a0.t.Init.map cI), .sl 2 (a0.t.Goal.map cF), .sl 4 (a0.t.Ops.map cGOp), .c (.int .i64 a0.c.Bound), .sl 2 (a0.c.Nogoods.map cN), .c (.int .i64 a0.steps)]]⟩)] [29] (.sl 1 (r1.map cL_cF)) [(29, ⟨130, 7, true, [[.sl 1 (a0.t.Vars.map cI), .sl 1 (a0.t.Init.map cI), .sl 2 (a0.t.Goal.map cF), .sl 4 (a0.t.Ops.map cGOp), .c (.int .i64 a0.c.Bound), .sl 2 (a0.c.Nogoods.map cN), .c (.int .i64 a0.steps)]]⟩)] := by
  refine acallg_of 31 Tryz.func102 rfl (by decide) rfl (Nat.le_of_ble_eq_true rfl) rfl rfl ?_; intro _; unfold M_ck_counting at h; refine aSR ?_; intro _; refine dr ?_; refine aSR ?_; intro _; refine dr ?_; refine aSq ?_; refine aSR ?_; intro _; refine dr ?_; refine aBk ?_; refine awp_loop (α := Nat × Int × (List (List Fact))) (fun x => mkG 29 31 [(1, .c (.int .i64 a1)), (5, .own 26 0 0 x.2.2.length), (12, .sl 2 (a0.c.Nogoods.map cN)), (13, .c (.int .i64 ((a0.c.Nogoods.map cN).length : Int))), (14, .c (.int .i64 x.2.1))] [(26, ⟨23, 1, false, x.2.2.map cL_cF⟩), (29, ⟨130, 7, true, [[.sl 1 (a0.t.Vars.map cI), .sl 1 (a0.t.Init.map cI), .sl 2 (a0.t.Goal.map cF), .sl 4 (a0.t.Ops.map cGOp), .c (.int .i64 a0.c.Bound), .sl 2 (a0.c.Nogoods.map cN), .c (.int .i64 a0.steps)]]⟩)]) (fun x => M_ck_counting_L1 a0 a1 x.1 x.2.1 x.2.2 = some r1) (fun x => x.1) ((((a0.c.Nogoods.map cN).length : Int)).toNat + 1, 0, []) h ?_ ?_
  · exact ca_0
  · intro x1 h; intro _; obtain ⟨k7, m2, h⟩ := succ_of (f := fun n => M_ck_counting_L1 a0 a1 n x1.2.1 x1.2.2) rfl h; replace h : M_ck_counting_L1 a0 a1 (k7 + 1) x1.2.1 x1.2.2 = some r1 := h; rw [M_ck_counting_L1] at h; refine aSR ?_; intro _; refine dr ?_; refine aSq ?_; refine aCd ?_; intro _; refine spl h (fun c3 h => ?_) (fun c3 h => ?_)
    · refine aSk ?_; refine aSq ?_; refine aBk ?_; refine aSR ?_; intro _; obtain ⟨y8, w4, q5, h⟩ := ix_ok h; refine Exists.intro (cN y8) (And.intro (map_at' w4) ?_); intro _; refine pr ?_; refine dr ?_; refine aSR ?_; intro _; refine dr ?_; refine aCd ?_; intro _; refine spl h (fun c6 h => ?_) (fun c6 h => ?_)
      · refine aRg ?_; intro _; obtain ⟨q7, h⟩ := grd_ok h; refine pl ?_; refine pl ?_; refine And.intro (by first | with_reducible assumption | (show (x1.2.2.length + 1) * 24 ≤ 140737488355328; with_reducible assumption) | omega | (simp; omega)) ?_; refine pe ?_; refine dr ?_; refine aRg ?_; intro _; refine dr ?_; refine ⟨(k7, (IntKind.i64.wrap (x1.2.1 + 1)), (x1.2.2 ++ [y8.1])), h, ltS m2, ?_⟩; exact ca_0
      · refine aSk ?_; refine aRg ?_; intro _; refine dr ?_; refine ⟨(k7, (IntKind.i64.wrap (x1.2.1 + 1)), x1.2.2), h, ltS m2, ?_⟩; exact ca_0
    · refine aEx ?_; refine aSR ?_; intro _; refine dr ?_; refine aRt ?_; obtain ⟨q8, h⟩ := grd_ok h; intro _; obtain rfl := inj1 h; all_goals (refine Exists.intro [] (And.intro rfl (And.intro ?_ ?_))); all_goals (exact zg_0)
def M_ck_covered (g : Nat) (a0 : GChecker) (a1 : List Fact) (a2 : Int) : Option (Bool × Er × GChecker) :=
  ob1 (M_ck_counting a0 a2) (fun z1 =>
   ob3 (M_p_Covered g a0.t.Vars a1 z1 a0.steps) (fun z2 z3 z4 =>
    erM z4
     (some (z2, Er.nil, { t := a0.t, c := a0.c, steps := (IntKind.i64.wrap (a0.steps - z3)) : GChecker }))
     (fun e5 => some (false, (Er.no e5), a0))))
theorem A_ck_covered (g : Nat) (a0 : GChecker) (a1 : List Fact) (a2 : Int) {r1 : Bool} {r2 : Er} {r3 : GChecker} (h : M_ck_covered g a0 a1 a2 = some (r1, r2, r3)) : ACallG cx 84 [.ptr 41 0 0 0, .sl 2 (a1.map cF), .c (.int .i64 a2)] [(41, ⟨130, 7, true, [[.sl 1 (a0.t.Vars.map cI), .sl 1 (a0.t.Init.map cI), .sl 2 (a0.t.Goal.map cF), .sl 4 (a0.t.Ops.map cGOp), .c (.int .i64 a0.c.Bound), .sl 2 (a0.c.Nogoods.map cN), .c (.int .i64 a0.steps)]]⟩)] [41] (.tup [.c (.bool r1), eA r2]) [(41, ⟨130, 7, true, [[.sl 1 (r3.t.Vars.map cI), .sl 1 (r3.t.Init.map cI), .sl 2 (r3.t.Goal.map cF), .sl 4 (r3.t.Ops.map cGOp), .c (.int .i64 r3.c.Bound), .sl 2 (r3.c.Nogoods.map cN), .c (.int .i64 r3.steps)]]⟩)] := by
  refine acallg_of 44 Tryz.func84 rfl (by decide) rfl (Nat.le_of_ble_eq_true rfl) rfl rfl ?_; intro _; unfold M_ck_covered at h; refine aSR ?_; intro _; refine dr ?_; refine aSR ?_; intro _; obtain ⟨z1, u1, h⟩ := ob1_ok h; refine clk [(29, 41)] [(41, ⟨0, some ⟨130, 7, true, [[.sl 1 (a0.t.Vars.map cI), .sl 1 (a0.t.Init.map cI), .sl 2 (a0.t.Goal.map cF), .sl 4 (a0.t.Ops.map cGOp), .c (.int .i64 a0.c.Bound), .sl 2 (a0.c.Nogoods.map cN), .c (.int .i64 a0.steps)]]⟩⟩)] (.sl 1 (z1.map cL_cF)) rfl rfl (A_ck_counting a0 a2 u1) ?_; intro _; obtain ⟨z2, z3, z4, u2, h⟩ := ob3_ok h; refine cl rfl (A_p_Covered g a0.t.Vars a1 z1 a0.steps u2) ?_; intro _; refine dr ?_; refine aSq ?_; refine aSq ?_; rcases z4 with _ | e5
  · replace h := erM_nil h; refine aRg ?_; intro _; refine dr ?_; refine aCd ?_; intro _; refine litF ?_; refine aSk ?_; refine aSR ?_; intro _; refine dr ?_; refine aSR ?_; intro _; refine dr ?_; refine aRt ?_; intro _; obtain ⟨rfl, rfl, rfl⟩ := inj3 h; all_goals (refine Exists.intro [] (And.intro rfl (And.intro ?_ ?_))); all_goals (exact zg_0)
  · replace h := erM_no h; refine aRg ?_; intro _; refine dr ?_; refine aCd ?_; intro _; refine litT ?_; refine aSR ?_; intro _; refine dr ?_; refine aRt ?_; intro _; obtain ⟨rfl, rfl, rfl⟩ := inj3 h; all_goals (refine Exists.intro [] (And.intro rfl (And.intro ?_ ?_))); all_goals (exact zg_0)
def M_ck_step_L1 (g : Nat) (v2 : Int) (z7 : List (List Fact)) : Nat → Int → (List Int) → (List Int) → (List Fact) → (List GOp) → Int → (List Nogood) → Int → Option (Er × GChecker)
  | 0, _, _, _, _, _, _, _, _ => none
  | k36 + 1, v28, v29, v30, v31, v32, v33, v34, v35 =>
    sel (decide (v28 < ((z7.map cL_cF).length : Int)))
     (ix z7 v28 (fun y37 =>
       ob3 (M_ck_covered g ({ t := { Vars := v29, Init := v30, Goal := v31, Ops := v32 : GTask }, c := { Bound := v33, Nogoods := v34 : GCertificate }, steps := v35 : GChecker }) y37 v2) (fun z38 z39 c40 =>
        erM z39
         (sel (!z38)
           (some ((Er.no 19), c40))
           (M_ck_step_L1 g v2 z7 k36 (IntKind.i64.wrap (v28 + 1)) c40.t.Vars c40.t.Init c40.t.Goal c40.t.Ops c40.c.Bound c40.c.Nogoods c40.steps))
         (fun e41 => some ((Er.no e41), c40)))))
     (some (Er.nil, { t := { Vars := v29, Init := v30, Goal := v31, Ops := v32 : GTask }, c := { Bound := v33, Nogoods := v34 : GCertificate }, steps := v35 : GChecker }))
def M_ck_step (g : Nat) (a0 : GChecker) (a1 : Nogood) (a2 : Int) : Option (Er × GChecker) :=
  ob1 (sel (decide (a0.c.Bound ≥ 0))
    (ix a0.t.Ops a2 (fun y6 =>
      sel (decide ((IntKind.i64.wrap (a1.2 + y6.Cost)) ≥ a0.c.Bound))
       (some (.inr (Er.nil, a0)))
       (some (.inl (IntKind.i64.wrap (a1.2 + y6.Cost))))))
    (some (.inl 0)) : Option (Int ⊕ (Er × GChecker)))
   (osum
   (fun v2 => ob2 (M_g_Regress g a0.t a2 a1.1) (fun z7 z8 =>
      erM z8
       (M_ck_step_L1 g v2 z7 ((((z7.map cL_cF).length : Int)).toNat + 1) 0 a0.t.Vars a0.t.Init a0.t.Goal a0.t.Ops a0.c.Bound a0.c.Nogoods a0.steps)
       (fun e9 => some ((Er.no e9), a0))))
   (fun (r3, r4) => some (r3, r4)))
theorem A_ck_step (g : Nat) (a0 : GChecker) (a1 : Nogood) (a2 : Int) {r1 : Er} {r2 : GChecker} (h : M_ck_step g a0 a1 a2 = some (r1, r2)) : ACallG cx 85 [.ptr 73 0 0 0, .agg [.sl 2 (a1.1.map cF), .c (.int .i64 a1.2)], .c (.int .i64 a2)] [(73, ⟨130, 7, true, [[.sl 1 (a0.t.Vars.map cI), .sl 1 (a0.t.Init.map cI), .sl 2 (a0.t.Goal.map cF), .sl 4 (a0.t.Ops.map cGOp), .c (.int .i64 a0.c.Bound), .sl 2 (a0.c.Nogoods.map cN), .c (.int .i64 a0.steps)]]⟩)] [73] (eA r1) [(73, ⟨130, 7, true, [[.sl 1 (r2.t.Vars.map cI), .sl 1 (r2.t.Init.map cI), .sl 2 (r2.t.Goal.map cF), .sl 4 (r2.t.Ops.map cGOp), .c (.int .i64 r2.c.Bound), .sl 2 (r2.c.Nogoods.map cN), .c (.int .i64 r2.steps)]]⟩)] := by
  refine acallg_of 76 Tryz.func85 rfl (by decide) rfl (Nat.le_of_ble_eq_true rfl) rfl rfl ?_; intro _; unfold M_ck_step at h; refine aSR ?_; intro _; refine dr ?_; refine aSR ?_; intro _; refine dr ?_; obtain ⟨o1, h, hK2⟩ := ob1_ok h; refine awp_cut (α := Int) (fun v2 => mkG 73 76 [(0, .ptr 73 0 0 0), (2, .c (.int .i64 a2)), (4, .ptr 4 0 0 0), (7, .c (.int .i64 v2))] [(4, ⟨40, 2, true, [[.sl 2 (a1.1.map cF), .c (.int .i64 a1.2)]]⟩), (73, ⟨130, 7, true, [[.sl 1 (a0.t.Vars.map cI), .sl 1 (a0.t.Init.map cI), .sl 2 (a0.t.Goal.map cF), .sl 4 (a0.t.Ops.map cGOp), .c (.int .i64 a0.c.Bound), .sl 2 (a0.c.Nogoods.map cN), .c (.int .i64 a0.steps)]]⟩)]) (fun v => o1 = (.inl v)) ?_ ?_
  · refine aSR ?_; intro _; refine dr ?_; refine aCd ?_; intro _; refine spl h (fun c3 h => ?_) (fun c3 h => ?_)
    · refine aSR ?_; intro _; obtain ⟨y6, w4, q5, h⟩ := ix_ok h; refine Exists.intro (cGOp y6) (And.intro (map_at' w4) ?_); intro _; refine pr ?_; refine dr ?_; refine aSR ?_; intro _; refine dr ?_; refine aCd ?_; intro _; refine spl h (fun c6 h => ?_) (fun c6 h => ?_)
      · refine aSR ?_; intro _; refine dr ?_; refine aRt ?_; have j7 := Option.some.inj h; subst j7; replace h := (osum_r hK2); intro _; obtain ⟨rfl, rfl⟩ := inj2 h; all_goals (refine Exists.intro [] (And.intro rfl (And.intro ?_ ?_))); all_goals (exact zg_0)
      · refine aSk ?_; refine ⟨(IntKind.i64.wrap (a1.2 + y6.Cost)), (Option.some.inj h).symm, ?_⟩; exact ca_0
    · refine aSk ?_; refine ⟨0, (Option.some.inj h).symm, ?_⟩; exact ca_0
  · rintro v2 ho; have ho := ho.symm; subst ho; intro _; replace h := (osum_l hK2); refine aSR ?_; intro _; obtain ⟨z7, z8, u8, h⟩ := ob2_ok h; refine cl rfl (A_g_Regress g a0.t a2 a1.1 u8) ?_; intro _; refine dr ?_; refine aSq ?_; refine aSq ?_; rcases z8 with _ | e9
    · replace h := erM_nil h; refine aRg ?_; intro _; refine dr ?_; refine aCd ?_; intro _; refine litF ?_; refine aSk ?_; refine aSq ?_; refine aSR ?_; intro _; refine dr ?_; refine aBk ?_; refine awp_loop (α := Nat × Int × (List Int) × (List Int) × (List Fact) × (List GOp) × Int × (List Nogood) × Int) (fun x => mkG 73 76 [(0, .ptr 73 0 0 0), (7, .c (.int .i64 v2)), (53, .sl 1 (z7.map cL_cF)), (54, .c (.int .i64 ((z7.map cL_cF).length : Int))), (55, .c (.int .i64 x.2.1))] [(73, ⟨130, 7, true, [[.sl 1 (x.2.2.1.map cI), .sl 1 (x.2.2.2.1.map cI), .sl 2 (x.2.2.2.2.1.map cF), .sl 4 (x.2.2.2.2.2.1.map cGOp), .c (.int .i64 x.2.2.2.2.2.2.1), .sl 2 (x.2.2.2.2.2.2.2.1.map cN), .c (.int .i64 x.2.2.2.2.2.2.2.2)]]⟩)]) (fun x => M_ck_step_L1 g v2 z7 x.1 x.2.1 x.2.2.1 x.2.2.2.1 x.2.2.2.2.1 x.2.2.2.2.2.1 x.2.2.2.2.2.2.1 x.2.2.2.2.2.2.2.1 x.2.2.2.2.2.2.2.2 = some (r1, r2)) (fun x => x.1) ((((z7.map cL_cF).length : Int)).toNat + 1, 0, a0.t.Vars, a0.t.Init, a0.t.Goal, a0.t.Ops, a0.c.Bound, a0.c.Nogoods, a0.steps) h ?_ ?_
      · exact ca_0
      · intro x9 h; intro _; obtain ⟨k36, m10, h⟩ := succ_of (f := fun n => M_ck_step_L1 g v2 z7 n x9.2.1 x9.2.2.1 x9.2.2.2.1 x9.2.2.2.2.1 x9.2.2.2.2.2.1 x9.2.2.2.2.2.2.1 x9.2.2.2.2.2.2.2.1 x9.2.2.2.2.2.2.2.2) rfl h; replace h : M_ck_step_L1 g v2 z7 (k36 + 1) x9.2.1 x9.2.2.1 x9.2.2.2.1 x9.2.2.2.2.1 x9.2.2.2.2.2.1 x9.2.2.2.2.2.2.1 x9.2.2.2.2.2.2.2.1 x9.2.2.2.2.2.2.2.2 = some (r1, r2) := h; rw [M_ck_step_L1] at h; refine aSR ?_; intro _; refine dr ?_; refine aSq ?_; refine aCd ?_; intro _; refine spl h (fun c11 h => ?_) (fun c11 h => ?_)
        · refine aSk ?_; refine aSq ?_; refine aBk ?_; refine aSR ?_; intro _; obtain ⟨y37, w12, q13, h⟩ := ix_ok h; refine Exists.intro (cL_cF y37) (And.intro (map_at' w12) ?_); intro _; refine pr ?_; refine dr ?_; refine aSR ?_; intro _; obtain ⟨z38, z39, c40, u14, h⟩ := ob3_ok h; refine clg [(41, 73)] [] [] [(73, ⟨0, some ⟨130, 7, true, [[.sl 1 (c40.t.Vars.map cI), .sl 1 (c40.t.Init.map cI), .sl 2 (c40.t.Goal.map cF), .sl 4 (c40.t.Ops.map cGOp), .c (.int .i64 c40.c.Bound), .sl 2 (c40.c.Nogoods.map cN), .c (.int .i64 c40.steps)]]⟩⟩)] (.tup [.c (.bool z38), eA z39]) rfl rfl (A_ck_covered g ({ t := { Vars := x9.2.2.1, Init := x9.2.2.2.1, Goal := x9.2.2.2.2.1, Ops := x9.2.2.2.2.2.1 : GTask }, c := { Bound := x9.2.2.2.2.2.2.1, Nogoods := x9.2.2.2.2.2.2.2.1 : GCertificate }, steps := x9.2.2.2.2.2.2.2.2 : GChecker }) y37 v2 u14) ?_; intro _; refine dr ?_; refine aSq ?_; refine aSq ?_; rcases z39 with _ | e41
          · replace h := erM_nil h; refine aRg ?_; intro _; refine dr ?_; refine aCd ?_; intro _; refine litF ?_; refine aSk ?_; refine aSR ?_; intro _; refine dr ?_; refine aCd ?_; intro _; refine spl h (fun c15 h => ?_) (fun c15 h => ?_)
            · refine aSR ?_; intro _; refine dr ?_; refine aRt ?_; intro _; obtain ⟨rfl, rfl⟩ := inj2 h; all_goals (refine Exists.intro [] (And.intro rfl (And.intro ?_ ?_))); all_goals (exact zg_0)
            · refine aSk ?_; refine aRg ?_; intro _; refine dr ?_; refine ⟨(k36, (IntKind.i64.wrap (x9.2.1 + 1)), c40.t.Vars, c40.t.Init, c40.t.Goal, c40.t.Ops, c40.c.Bound, c40.c.Nogoods, c40.steps), h, ltS m10, ?_⟩; exact ca_0
          · replace h := erM_no h; refine aRg ?_; intro _; refine dr ?_; refine aCd ?_; intro _; refine litT ?_; refine aSR ?_; intro _; refine dr ?_; refine aRt ?_; intro _; obtain ⟨rfl, rfl⟩ := inj2 h; all_goals (refine Exists.intro [] (And.intro rfl (And.intro ?_ ?_))); all_goals (exact zg_0)
        · refine aEx ?_; refine aSR ?_; intro _; refine dr ?_; refine aRt ?_; intro _; obtain ⟨rfl, rfl⟩ := inj2 h; all_goals (refine Exists.intro [] (And.intro rfl (And.intro ?_ ?_))); all_goals (exact zg_0)
    · replace h := erM_no h; refine aRg ?_; intro _; refine dr ?_; refine aCd ?_; intro _; refine litT ?_; refine aSR ?_; intro _; refine dr ?_; refine aRt ?_; intro _; obtain ⟨rfl, rfl⟩ := inj2 h; all_goals (refine Exists.intro [] (And.intro rfl (And.intro ?_ ?_))); all_goals (exact zg_0)
def M_checker_Where_L1 (a0 : GTask) (a1 : GCertificate) : Nat → Int → Option (Unit ⊕ (Int × Int × Er))
  | 0, _ => none
  | k24 + 1, v23 =>
    sel (decide (v23 < ((a1.Nogoods.map cN).length : Int)))
     (ix a1.Nogoods v23 (fun y25 =>
       ob1 (M_task_Holds y25.1 a0.Init) (fun z26 =>
        sel z26
         (some (.inr ((-1), (-1), (Er.no 20))))
         (M_checker_Where_L1 a0 a1 k24 (IntKind.i64.wrap (v23 + 1))))))
     (some (.inl ()))
def M_checker_Where_L2 (a0 : GTask) (g : Nat) (v184 : Int) (y231 : Nogood) : Nat → Int → (List Int) → (List Int) → (List Fact) → (List GOp) → Int → (List Nogood) → Int → Option (((List Int) × (List Int) × (List Fact) × (List GOp) × Int × (List Nogood) × Int) ⊕ (Int × Int × Er))
  | 0, _, _, _, _, _, _, _, _ => none
  | k254 + 1, v246, v247, v248, v249, v250, v251, v252, v253 =>
    sel (decide (v246 < ((a0.Ops.map cGOp).length : Int)))
     (ob2 (M_ck_step g ({ t := { Vars := v247, Init := v248, Goal := v249, Ops := v250 : GTask }, c := { Bound := v251, Nogoods := v252 : GCertificate }, steps := v253 : GChecker }) y231 v246) (fun z255 c256 =>
       erM z255
        (M_checker_Where_L2 a0 g v184 y231 k254 (IntKind.i64.wrap (v246 + 1)) c256.t.Vars c256.t.Init c256.t.Goal c256.t.Ops c256.c.Bound c256.c.Nogoods c256.steps)
        (fun e257 => some (.inr (v184, v246, (Er.no e257))))))
     (some (.inl (v247, v248, v249, v250, v251, v252, v253)))
def M_checker_Where_L3 (a0 : GTask) (a1 : GCertificate) (g : Nat) : Nat → Int → (List Int) → (List Int) → (List Fact) → (List GOp) → Int → (List Nogood) → Int → Option (Int × Int × Er)
  | 0, _, _, _, _, _, _, _, _ => none
  | k192 + 1, v184, v185, v186, v187, v188, v189, v190, v191 =>
    sel (decide (v184 < ((a1.Nogoods.map cN).length : Int)))
     (ob1 (ix a1.Nogoods v184 (fun y231 =>
        M_checker_Where_L2 a0 g v184 y231 ((((a0.Ops.map cGOp).length : Int)).toNat + 1) 0 v185 v186 v187 v188 v189 v190 v191) : Option (((List Int) × (List Int) × (List Fact) × (List GOp) × Int × (List Nogood) × Int) ⊕ (Int × Int × Er)))
       (osum
       (fun (v220, v221, v222, v223, v224, v225, v226) => M_checker_Where_L3 a0 a1 g k192 (IntKind.i64.wrap (v184 + 1)) v220 v221 v222 v223 v224 v225 v226)
       (fun (r227, r228, r229) => some (r227, r228, r229))))
     (some ((-1), (-1), Er.nil))
def M_checker_Where (g : Nat) (a0 : GTask) (a1 : GCertificate) (a2 : Int) : Option (Int × Int × Er) :=
  ob1 (M_task_Check a0) (fun z1 =>
   erM z1
    (ob1 (M_ce_Proper a0.Vars a1) (fun z3 =>
      erM z3
       (ob1 (M_checker_Where_L1 a0 a1 ((((a1.Nogoods.map cN).length : Int)).toNat + 1) 0 : Option (Unit ⊕ (Int × Int × Er)))
         (osum
         (fun _ => ob1 (sel (a1.Bound != 0)
             (ob3 (M_ck_covered g ({ t := a0, c := a1, steps := (max 0 (min a2 1048576)) : GChecker }) a0.Goal 0) (fun z42 z43 c44 =>
               erM z43
                (sel (!z42)
                  (some (.inr ((-1), (-1), (Er.no 13))))
                  (some (.inl (c44.t.Vars, c44.t.Init, c44.t.Goal, c44.t.Ops, c44.c.Bound, c44.c.Nogoods, c44.steps))))
                (fun e45 => some (.inr ((-1), (-1), (Er.no e45))))))
             (some (.inl (a0.Vars, a0.Init, a0.Goal, a0.Ops, a1.Bound, a1.Nogoods, (max 0 (min a2 1048576))))) : Option (((List Int) × (List Int) × (List Fact) × (List GOp) × Int × (List Nogood) × Int) ⊕ (Int × Int × Er)))
            (osum
            (fun (v31, v32, v33, v34, v35, v36, v37) => M_checker_Where_L3 a0 a1 g ((((a1.Nogoods.map cN).length : Int)).toNat + 1) 0 v31 v32 v33 v34 v35 v36 v37)
            (fun (r38, r39, r40) => some (r38, r39, r40))))
         (fun (r14, r15, r16) => some (r14, r15, r16))))
       (fun e4 => some ((-1), (-1), (Er.no e4)))))
    (fun e2 => some ((-1), (-1), (Er.no e2))))
theorem A_checker_Where (g : Nat) (a0 : GTask) (a1 : GCertificate) (a2 : Int) {r1 : Int} {r2 : Int} {r3 : Er} (h : M_checker_Where g a0 a1 a2 = some (r1, r2, r3)) : ACall cx 56 [.agg [.sl 1 (a0.Vars.map cI), .sl 1 (a0.Init.map cI), .sl 2 (a0.Goal.map cF), .sl 4 (a0.Ops.map cGOp)], .agg [.c (.int .i64 a1.Bound), .sl 2 (a1.Nogoods.map cN)], .c (.int .i64 a2)] (.tup [.c (.int .i64 r1), .c (.int .i64 r2), eA r3]) := by
  refine aOf Tryz.func56 rfl (by decide) rfl (Nat.le_of_ble_eq_true rfl) ?_; intro _; unfold M_checker_Where at h; refine aSR ?_; intro _; refine dr ?_; refine aSq ?_; refine aSR ?_; intro _; obtain ⟨z1, u1, h⟩ := ob1_ok h; refine cl rfl (A_task_Check a0 u1) ?_; intro _; refine dr ?_; refine aSq ?_; rcases z1 with _ | e2
  · replace h := erM_nil h; refine aRg ?_; intro _; refine dr ?_; refine aCd ?_; intro _; refine litF ?_; refine aSk ?_; refine aSq ?_; refine aSR ?_; intro _; obtain ⟨z3, u2, h⟩ := ob1_ok h; refine cl rfl (A_ce_Proper a0.Vars a1 u2) ?_; intro _; refine dr ?_; refine aSq ?_; rcases z3 with _ | e4
    · replace h := erM_nil h; refine aRg ?_; intro _; refine dr ?_; refine aCd ?_; intro _; refine litF ?_; refine aSk ?_; obtain ⟨o3, h, hK4⟩ := ob1_ok h; refine awp_cut (α := Unit) (fun _ => mkS 94 [(2, .c (.int .i64 a2)), (3, .ptr 3 0 0 0), (4, .ptr 4 0 0 0)] [(3, ⟨26, 4, true, [[.sl 1 (a0.Vars.map cI), .sl 1 (a0.Init.map cI), .sl 2 (a0.Goal.map cF), .sl 4 (a0.Ops.map cGOp)]]⟩), (4, ⟨31, 2, true, [[.c (.int .i64 a1.Bound), .sl 2 (a1.Nogoods.map cN)]]⟩)]) (fun v => o3 = (.inl v)) ?_ ?_
      · refine aSR ?_; intro _; refine dr ?_; refine aBk ?_; refine awp_loop (α := Nat × Int) (fun x => mkS 94 [(2, .c (.int .i64 a2)), (3, .ptr 3 0 0 0), (4, .ptr 4 0 0 0), (33, .sl 2 (a1.Nogoods.map cN)), (34, .c (.int .i64 ((a1.Nogoods.map cN).length : Int))), (35, .c (.int .i64 x.2))] [(3, ⟨26, 4, true, [[.sl 1 (a0.Vars.map cI), .sl 1 (a0.Init.map cI), .sl 2 (a0.Goal.map cF), .sl 4 (a0.Ops.map cGOp)]]⟩), (4, ⟨31, 2, true, [[.c (.int .i64 a1.Bound), .sl 2 (a1.Nogoods.map cN)]]⟩)]) (fun x => M_checker_Where_L1 a0 a1 x.1 x.2 = some o3) (fun x => x.1) ((((a1.Nogoods.map cN).length : Int)).toNat + 1, 0) h ?_ ?_
        · exact ca_0
        · intro x5 h; intro _; obtain ⟨k24, m6, h⟩ := succ_of (f := fun n => M_checker_Where_L1 a0 a1 n x5.2) rfl h; replace h : M_checker_Where_L1 a0 a1 (k24 + 1) x5.2 = some o3 := h; rw [M_checker_Where_L1] at h; refine aSR ?_; intro _; refine dr ?_; refine aSq ?_; refine aCd ?_; intro _; refine spl h (fun c7 h => ?_) (fun c7 h => ?_)
          · refine aSk ?_; refine aSq ?_; refine aBk ?_; refine aSR ?_; intro _; obtain ⟨y25, w8, q9, h⟩ := ix_ok h; refine Exists.intro (cN y25) (And.intro (map_at' w8) ?_); intro _; refine pr ?_; refine dr ?_; refine aSR ?_; intro _; obtain ⟨z26, u10, h⟩ := ob1_ok h; refine cl rfl (A_task_Holds y25.1 a0.Init u10) ?_; intro _; refine dr ?_; refine aCd ?_; intro _; refine spl h (fun c11 h => ?_) (fun c11 h => ?_)
            · refine aSR ?_; intro _; refine dr ?_; refine aRt ?_; have j12 := Option.some.inj h; subst j12; replace h := (osum_r hK4); intro _; obtain ⟨rfl, rfl, rfl⟩ := inj3 h; exact ca_0
            · refine aSk ?_; refine aRg ?_; intro _; refine dr ?_; refine ⟨(k24, (IntKind.i64.wrap (x5.2 + 1))), h, ltS m6, ?_⟩; exact ca_0
          · refine aEx ?_; refine ⟨(), (Option.some.inj h).symm, ?_⟩; exact ca_0
      · rintro _ ho; have ho := ho.symm; subst ho; intro _; replace h := (osum_l hK4); refine aSR ?_; intro _; refine ⟨_, lf_min rfl (Nat.le_of_ble_eq_true rfl) rfl rfl, ?_⟩; intro _; refine ⟨_, lf_max rfl (Nat.le_of_ble_eq_true rfl) rfl rfl, ?_⟩; intro _; refine dr ?_; obtain ⟨o13, h, hK14⟩ := ob1_ok h; refine awp_cut (α := (List Int) × (List Int) × (List Fact) × (List GOp) × Int × (List Nogood) × Int) (fun (v31, v32, v33, v34, v35, v36, v37) => mkS 94 [(3, .ptr 3 0 0 0), (4, .ptr 4 0 0 0), (13, .ptr 52 0 0 0)] [(3, ⟨26, 4, true, [[.sl 1 (a0.Vars.map cI), .sl 1 (a0.Init.map cI), .sl 2 (a0.Goal.map cF), .sl 4 (a0.Ops.map cGOp)]]⟩), (4, ⟨31, 2, true, [[.c (.int .i64 a1.Bound), .sl 2 (a1.Nogoods.map cN)]]⟩), (52, ⟨130, 7, true, [[.sl 1 (v31.map cI), .sl 1 (v32.map cI), .sl 2 (v33.map cF), .sl 4 (v34.map cGOp), .c (.int .i64 v35), .sl 2 (v36.map cN), .c (.int .i64 v37)]]⟩)]) (fun v => o13 = (.inl v)) ?_ ?_
        · refine aSR ?_; intro _; refine dr ?_; refine aCd ?_; intro _; refine spl h (fun c15 h => ?_) (fun c15 h => ?_)
          · refine aSR ?_; intro _; obtain ⟨z42, z43, c44, u16, h⟩ := ob3_ok h; refine clg [(41, 52)] [] [] [(52, ⟨1, some ⟨130, 7, true, [[.sl 1 (c44.t.Vars.map cI), .sl 1 (c44.t.Init.map cI), .sl 2 (c44.t.Goal.map cF), .sl 4 (c44.t.Ops.map cGOp), .c (.int .i64 c44.c.Bound), .sl 2 (c44.c.Nogoods.map cN), .c (.int .i64 c44.steps)]]⟩⟩)] (.tup [.c (.bool z42), eA z43]) rfl rfl (A_ck_covered g ({ t := a0, c := a1, steps := (max 0 (min a2 1048576)) : GChecker }) a0.Goal 0 u16) ?_; intro _; refine dr ?_; refine aSq ?_; refine aSq ?_; rcases z43 with _ | e45
            · replace h := erM_nil h; refine aRg ?_; intro _; refine dr ?_; refine aCd ?_; intro _; refine litF ?_; refine aSk ?_; refine aSR ?_; intro _; refine dr ?_; refine aCd ?_; intro _; refine spl h (fun c17 h => ?_) (fun c17 h => ?_)
              · refine aSR ?_; intro _; refine dr ?_; refine aRt ?_; have j18 := Option.some.inj h; subst j18; replace h := (osum_r hK14); intro _; obtain ⟨rfl, rfl, rfl⟩ := inj3 h; exact ca_0
              · refine aSk ?_; refine ⟨(c44.t.Vars, c44.t.Init, c44.t.Goal, c44.t.Ops, c44.c.Bound, c44.c.Nogoods, c44.steps), (Option.some.inj h).symm, ?_⟩; exact ca_0
            · replace h := erM_no h; refine aRg ?_; intro _; refine dr ?_; refine aCd ?_; intro _; refine litT ?_; refine aSR ?_; intro _; refine dr ?_; refine aRt ?_; have j19 := Option.some.inj h; subst j19; replace h := (osum_r hK14); intro _; obtain ⟨rfl, rfl, rfl⟩ := inj3 h; exact ca_0
          · refine aSk ?_; refine ⟨(a0.Vars, a0.Init, a0.Goal, a0.Ops, a1.Bound, a1.Nogoods, (max 0 (min a2 1048576))), (Option.some.inj h).symm, ?_⟩; exact ca_0
        · rintro ⟨v31, v32, v33, v34, v35, v36, v37⟩ ho; have ho := ho.symm; subst ho; intro _; replace h := (osum_l hK14); refine aSq ?_; refine aSR ?_; intro _; refine dr ?_; refine aBk ?_; refine awp_loop (α := Nat × Int × (List Int) × (List Int) × (List Fact) × (List GOp) × Int × (List Nogood) × Int) (fun x => mkS 94 [(3, .ptr 3 0 0 0), (13, .ptr 52 0 0 0), (70, .sl 2 (a1.Nogoods.map cN)), (71, .c (.int .i64 ((a1.Nogoods.map cN).length : Int))), (72, .c (.int .i64 x.2.1))] [(3, ⟨26, 4, true, [[.sl 1 (a0.Vars.map cI), .sl 1 (a0.Init.map cI), .sl 2 (a0.Goal.map cF), .sl 4 (a0.Ops.map cGOp)]]⟩), (52, ⟨130, 7, true, [[.sl 1 (x.2.2.1.map cI), .sl 1 (x.2.2.2.1.map cI), .sl 2 (x.2.2.2.2.1.map cF), .sl 4 (x.2.2.2.2.2.1.map cGOp), .c (.int .i64 x.2.2.2.2.2.2.1), .sl 2 (x.2.2.2.2.2.2.2.1.map cN), .c (.int .i64 x.2.2.2.2.2.2.2.2)]]⟩)]) (fun x => M_checker_Where_L3 a0 a1 g x.1 x.2.1 x.2.2.1 x.2.2.2.1 x.2.2.2.2.1 x.2.2.2.2.2.1 x.2.2.2.2.2.2.1 x.2.2.2.2.2.2.2.1 x.2.2.2.2.2.2.2.2 = some (r1, r2, r3)) (fun x => x.1) ((((a1.Nogoods.map cN).length : Int)).toNat + 1, 0, v31, v32, v33, v34, v35, v36, v37) h ?_ ?_
          · exact ca_0
          · intro x20 h; intro _; obtain ⟨k192, m21, h⟩ := succ_of (f := fun n => M_checker_Where_L3 a0 a1 g n x20.2.1 x20.2.2.1 x20.2.2.2.1 x20.2.2.2.2.1 x20.2.2.2.2.2.1 x20.2.2.2.2.2.2.1 x20.2.2.2.2.2.2.2.1 x20.2.2.2.2.2.2.2.2) rfl h; replace h : M_checker_Where_L3 a0 a1 g (k192 + 1) x20.2.1 x20.2.2.1 x20.2.2.2.1 x20.2.2.2.2.1 x20.2.2.2.2.2.1 x20.2.2.2.2.2.2.1 x20.2.2.2.2.2.2.2.1 x20.2.2.2.2.2.2.2.2 = some (r1, r2, r3) := h; rw [M_checker_Where_L3] at h; refine aSR ?_; intro _; refine dr ?_; refine aSq ?_; refine aCd ?_; intro _; refine spl h (fun c22 h => ?_) (fun c22 h => ?_)
            · refine aSk ?_; obtain ⟨o23, h, hK24⟩ := ob1_ok h; refine awp_cut (α := (List Int) × (List Int) × (List Fact) × (List GOp) × Int × (List Nogood) × Int) (fun (v220, v221, v222, v223, v224, v225, v226) => mkS 94 [(3, .ptr 3 0 0 0), (13, .ptr 52 0 0 0), (70, .sl 2 (a1.Nogoods.map cN)), (71, .c (.int .i64 ((a1.Nogoods.map cN).length : Int))), (72, .c (.int .i64 x20.2.1))] [(3, ⟨26, 4, true, [[.sl 1 (a0.Vars.map cI), .sl 1 (a0.Init.map cI), .sl 2 (a0.Goal.map cF), .sl 4 (a0.Ops.map cGOp)]]⟩), (52, ⟨130, 7, true, [[.sl 1 (v220.map cI), .sl 1 (v221.map cI), .sl 2 (v222.map cF), .sl 4 (v223.map cGOp), .c (.int .i64 v224), .sl 2 (v225.map cN), .c (.int .i64 v226)]]⟩)]) (fun v => o23 = (.inl v)) ?_ ?_
              · refine aBk ?_; refine aSR ?_; intro _; obtain ⟨y231, w25, q26, h⟩ := ix_ok h; refine Exists.intro (cN y231) (And.intro (map_at' w25) ?_); intro _; refine pr ?_; refine dr ?_; refine aSR ?_; intro _; refine dr ?_; refine aBk ?_; refine awp_loop (α := Nat × Int × (List Int) × (List Int) × (List Fact) × (List GOp) × Int × (List Nogood) × Int) (fun x => mkS 94 [(3, .ptr 3 0 0 0), (13, .ptr 52 0 0 0), (16, .c (.int .i64 x20.2.1)), (17, .ptr 17 0 0 0), (70, .sl 2 (a1.Nogoods.map cN)), (71, .c (.int .i64 ((a1.Nogoods.map cN).length : Int))), (72, .c (.int .i64 x20.2.1)), (79, .c (.int .i64 ((a0.Ops.map cGOp).length : Int))), (80, .c (.int .i64 x.2.1))] [(3, ⟨26, 4, true, [[.sl 1 (a0.Vars.map cI), .sl 1 (a0.Init.map cI), .sl 2 (a0.Goal.map cF), .sl 4 (a0.Ops.map cGOp)]]⟩), (17, ⟨40, 2, true, [[.sl 2 (y231.1.map cF), .c (.int .i64 y231.2)]]⟩), (52, ⟨130, 7, true, [[.sl 1 (x.2.2.1.map cI), .sl 1 (x.2.2.2.1.map cI), .sl 2 (x.2.2.2.2.1.map cF), .sl 4 (x.2.2.2.2.2.1.map cGOp), .c (.int .i64 x.2.2.2.2.2.2.1), .sl 2 (x.2.2.2.2.2.2.2.1.map cN), .c (.int .i64 x.2.2.2.2.2.2.2.2)]]⟩)]) (fun x => M_checker_Where_L2 a0 g x20.2.1 y231 x.1 x.2.1 x.2.2.1 x.2.2.2.1 x.2.2.2.2.1 x.2.2.2.2.2.1 x.2.2.2.2.2.2.1 x.2.2.2.2.2.2.2.1 x.2.2.2.2.2.2.2.2 = some o23) (fun x => x.1) ((((a0.Ops.map cGOp).length : Int)).toNat + 1, 0, x20.2.2.1, x20.2.2.2.1, x20.2.2.2.2.1, x20.2.2.2.2.2.1, x20.2.2.2.2.2.2.1, x20.2.2.2.2.2.2.2.1, x20.2.2.2.2.2.2.2.2) h ?_ ?_
                · exact ca_0
                · intro x27 h; intro _; obtain ⟨k254, m28, h⟩ := succ_of (f := fun n => M_checker_Where_L2 a0 g x20.2.1 y231 n x27.2.1 x27.2.2.1 x27.2.2.2.1 x27.2.2.2.2.1 x27.2.2.2.2.2.1 x27.2.2.2.2.2.2.1 x27.2.2.2.2.2.2.2.1 x27.2.2.2.2.2.2.2.2) rfl h; replace h : M_checker_Where_L2 a0 g x20.2.1 y231 (k254 + 1) x27.2.1 x27.2.2.1 x27.2.2.2.1 x27.2.2.2.2.1 x27.2.2.2.2.2.1 x27.2.2.2.2.2.2.1 x27.2.2.2.2.2.2.2.1 x27.2.2.2.2.2.2.2.2 = some o23 := h; rw [M_checker_Where_L2] at h; refine aSR ?_; intro _; refine dr ?_; refine aSq ?_; refine aCd ?_; intro _; refine spl h (fun c29 h => ?_) (fun c29 h => ?_)
                  · refine aSk ?_; refine aSq ?_; refine aBk ?_; refine aSR ?_; intro _; refine dr ?_; refine aSR ?_; intro _; obtain ⟨z255, c256, u30, h⟩ := ob2_ok h; refine clg [(73, 52)] [] [] [(52, ⟨0, some ⟨130, 7, true, [[.sl 1 (c256.t.Vars.map cI), .sl 1 (c256.t.Init.map cI), .sl 2 (c256.t.Goal.map cF), .sl 4 (c256.t.Ops.map cGOp), .c (.int .i64 c256.c.Bound), .sl 2 (c256.c.Nogoods.map cN), .c (.int .i64 c256.steps)]]⟩⟩)] (eA z255) rfl rfl (A_ck_step g ({ t := { Vars := x27.2.2.1, Init := x27.2.2.2.1, Goal := x27.2.2.2.2.1, Ops := x27.2.2.2.2.2.1 : GTask }, c := { Bound := x27.2.2.2.2.2.2.1, Nogoods := x27.2.2.2.2.2.2.2.1 : GCertificate }, steps := x27.2.2.2.2.2.2.2.2 : GChecker }) y231 x27.2.1 u30) ?_; intro _; refine dr ?_; refine aSq ?_; rcases z255 with _ | e257
                    · replace h := erM_nil h; refine aRg ?_; intro _; refine dr ?_; refine aCd ?_; intro _; refine litF ?_; refine aSk ?_; refine aRg ?_; intro _; refine dr ?_; refine ⟨(k254, (IntKind.i64.wrap (x27.2.1 + 1)), c256.t.Vars, c256.t.Init, c256.t.Goal, c256.t.Ops, c256.c.Bound, c256.c.Nogoods, c256.steps), h, ltS m28, ?_⟩; exact ca_0
                    · replace h := erM_no h; refine aRg ?_; intro _; refine dr ?_; refine aCd ?_; intro _; refine litT ?_; refine aSR ?_; intro _; refine dr ?_; refine aRt ?_; have j31 := Option.some.inj h; subst j31; replace h := (osum_r hK24); intro _; obtain ⟨rfl, rfl, rfl⟩ := inj3 h; exact ca_0
                  · refine aEx ?_; refine ⟨(x27.2.2.1, x27.2.2.2.1, x27.2.2.2.2.1, x27.2.2.2.2.2.1, x27.2.2.2.2.2.2.1, x27.2.2.2.2.2.2.2.1, x27.2.2.2.2.2.2.2.2), (Option.some.inj h).symm, ?_⟩; exact ca_0
              · rintro ⟨v220, v221, v222, v223, v224, v225, v226⟩ ho; have ho := ho.symm; subst ho; intro _; replace h := (osum_l hK24); refine aRg ?_; intro _; refine dr ?_; refine ⟨(k192, (IntKind.i64.wrap (x20.2.1 + 1)), v220, v221, v222, v223, v224, v225, v226), h, ltS m21, ?_⟩; exact ca_0
            · refine aEx ?_; refine aSR ?_; intro _; refine dr ?_; refine aRt ?_; intro _; obtain ⟨rfl, rfl, rfl⟩ := inj3 h; exact ca_0
    · replace h := erM_no h; refine aRg ?_; intro _; refine dr ?_; refine aCd ?_; intro _; refine litT ?_; refine aSR ?_; intro _; refine dr ?_; refine aRt ?_; intro _; obtain ⟨rfl, rfl, rfl⟩ := inj3 h; exact ca_0
  · replace h := erM_no h; refine aRg ?_; intro _; refine dr ?_; refine aCd ?_; intro _; refine litT ?_; refine aSR ?_; intro _; refine dr ?_; refine aRt ?_; intro _; obtain ⟨rfl, rfl, rfl⟩ := inj3 h; exact ca_0
def M_checker_Verify (g : Nat) (a0 : GTask) (a1 : GCertificate) (a2 : Int) : Option (Er) :=
  ob3 (M_checker_Where g a0 a1 a2) (fun _ _ z3 =>
   some z3)
theorem A_checker_Verify (g : Nat) (a0 : GTask) (a1 : GCertificate) (a2 : Int) {r1 : Er} (h : M_checker_Verify g a0 a1 a2 = some r1) : ACall cx 26 [.agg [.sl 1 (a0.Vars.map cI), .sl 1 (a0.Init.map cI), .sl 2 (a0.Goal.map cF), .sl 4 (a0.Ops.map cGOp)], .agg [.c (.int .i64 a1.Bound), .sl 2 (a1.Nogoods.map cN)], .c (.int .i64 a2)] (eA r1) := by
  refine aOf Tryz.func26 rfl (by decide) rfl (Nat.le_of_ble_eq_true rfl) ?_; intro _; unfold M_checker_Verify at h; refine aSR ?_; intro _; refine dr ?_; refine aSR ?_; intro _; obtain ⟨z1, z2, z3, u1, h⟩ := ob3_ok h; refine cl rfl (A_checker_Where g a0 a1 a2 u1) ?_; intro _; refine dr ?_; refine aSR ?_; intro _; refine dr ?_; refine aRt ?_; intro _; obtain rfl := inj1 h; all_goals (cases z3); all_goals exact ca_0
end Go.Proofs.YtohjegemooakpaaGreat.Am
namespace Go.Proofs.YtohjegemooakpaaGreat.Am
def M_ce_formed_L1_B (a0 : List Fact) (_y7 : Fact) (v5 : Int) : Unit → (Unit → Option (Bool)) → Option (Bool) := fun _ rc => ixv _y7 (fun y7 =>
       sel (decide (y7.1 < 0))
        (some false)
        (sel (decide (y7.1 ≥ 64))
          (some false)
          (sel (decide (y7.2 < 0))
            (some false)
            (sel (decide (y7.2 ≥ 64))
              (some false)
              (sel (decide (v5 > 0))
                (ix a0 (IntKind.i64.wrap (v5 - 1)) (fun y8 =>
                  sel (decide (y8.1 ≥ y7.1))
                   (some false)
                   (rc ())))
                (rc ()))))))
def M_ce_formed_L1_E (_ : List Fact) : Unit → Option (Bool) := fun _ => some true
theorem M_ce_formed_L1_eq (a0 : List Fact)  (hl : a0.length < 9223372036854775807) : M_ce_formed_L1 a0 (((a0.map cF).length : Int).toNat + 1) 0 = Rg (M_ce_formed_L1_B a0) (M_ce_formed_L1_E a0) a0 0 () := rg_e1 (L := fun k i _ => M_ce_formed_L1 a0 k i) hl (fun _ _ _ => rfl) ()
def M_ce_Check_L1_B (_ : GCertificate) (_y21 : Nogood) (_ : Int) : Unit → (Unit → Option (Unit ⊕ Er)) → Option (Unit ⊕ Er) := fun _ rc => ixv _y21 (fun y21 =>
       ob1 (M_ce_formed y21.1) (fun z22 =>
        sel (!z22)
         (some (.inr (Er.no 2)))
         (rc ())))
def M_ce_Check_L1_E (_ : GCertificate) : Unit → Option (Unit ⊕ Er) := fun _ => some (.inl ())
theorem M_ce_Check_L1_eq (a0 : GCertificate)  (hl : a0.Nogoods.length < 9223372036854775807) : M_ce_Check_L1 a0 (((a0.Nogoods.map cN).length : Int).toNat + 1) 0 = Rg (M_ce_Check_L1_B a0) (M_ce_Check_L1_E a0) a0.Nogoods 0 () := rg_e1 (L := fun k i _ => M_ce_Check_L1 a0 k i) hl (fun _ _ _ => rfl) ()
def M_ce_Check_L2_B (a0 : GCertificate) (_y28 : Nogood) (_ : Int) : Unit → (Unit → Option (Er)) → Option (Er) := fun _ rc => ixv _y28 (fun y28 =>
       sel (decide (y28.2 < 0))
        (some (Er.no 1))
        (sel (decide (a0.Bound ≥ 0))
          (sel (decide (y28.2 ≥ a0.Bound))
            (some (Er.no 1))
            (sel (decide (a0.Bound < 0))
              (sel (y28.2 != 0)
                (some (Er.no 1))
                (rc ()))
              (rc ())))
          (sel (decide (a0.Bound < 0))
            (sel (y28.2 != 0)
              (some (Er.no 1))
              (rc ()))
            (rc ()))))
def M_ce_Check_L2_E (_ : GCertificate) : Unit → Option (Er) := fun _ => some Er.nil
theorem M_ce_Check_L2_eq (a0 : GCertificate)  (hl : a0.Nogoods.length < 9223372036854775807) : M_ce_Check_L2 a0 (((a0.Nogoods.map cN).length : Int).toNat + 1) 0 = Rg (M_ce_Check_L2_B a0) (M_ce_Check_L2_E a0) a0.Nogoods 0 () := rg_e1 (L := fun k i _ => M_ce_Check_L2 a0 k i) hl (fun _ _ _ => rfl) ()
def M_ce_Proper_L1_B (a0 : List Int) (_ : GCertificate) (_y10 : Nogood) (_ : Int) : Unit → (Unit → Option (Er)) → Option (Er) := fun _ rc => ixv _y10 (fun y10 =>
       ob1 (M_task_Facts a0 y10.1) (fun z11 =>
        sel (!z11)
         (some (Er.no 2))
         (rc ())))
def M_ce_Proper_L1_E (_ : List Int) (_ : GCertificate) : Unit → Option (Er) := fun _ => some Er.nil
theorem M_ce_Proper_L1_eq (a0 : List Int) (a1 : GCertificate)  (hl : a1.Nogoods.length < 9223372036854775807) : M_ce_Proper_L1 a0 a1 (((a1.Nogoods.map cN).length : Int).toNat + 1) 0 = Rg (M_ce_Proper_L1_B a0 a1) (M_ce_Proper_L1_E a0 a1) a1.Nogoods 0 () := rg_e1 (L := fun k i _ => M_ce_Proper_L1 a0 a1 k i) hl (fun _ _ _ => rfl) ()
def M_ck_counting_L1_B (_ : GChecker) (a1 : Int) (_y8 : Nogood) (_ : Int) : ((List (List Fact))) → (((List (List Fact))) → Option (List (List Fact))) → Option (List (List Fact)) := fun v6 rc => ixv _y8 (fun y8 =>
       sel (decide (y8.2 ≤ a1))
        (grd ((v6.length + 1) * 24 ≤ 140737488355328) (rc ((v6 ++ [y8.1]))))
        (rc (v6)))
def M_ck_counting_L1_E (_ : GChecker) (_ : Int) : ((List (List Fact))) → Option (List (List Fact)) := fun v6 => grd (v6.length ≤ 140737488355328) (some v6)
theorem M_ck_counting_L1_eq (a0 : GChecker) (a1 : Int) (v6 : List (List Fact)) (hl : a0.c.Nogoods.length < 9223372036854775807) : M_ck_counting_L1 a0 a1 (((a0.c.Nogoods.map cN).length : Int).toNat + 1) 0 v6 = Rg (M_ck_counting_L1_B a0 a1) (M_ck_counting_L1_E a0 a1) a0.c.Nogoods 0 v6 := rg_e1 (L := fun k i v6 => M_ck_counting_L1 a0 a1 k i v6) hl (fun _ _ _ => rfl) v6
def M_ck_step_L1_B (g : Nat) (v2 : Int) (_ : List (List Fact)) (_y37 : List Fact) (_ : Int) : ((List Int) × (List Int) × (List Fact) × (List GOp) × (Int) × (List Nogood) × (Int)) → (((List Int) × (List Int) × (List Fact) × (List GOp) × (Int) × (List Nogood) × (Int)) → Option (Er × GChecker)) → Option (Er × GChecker) := fun (v29, v30, v31, v32, v33, v34, v35) rc => ixv _y37 (fun y37 =>
       ob3 (M_ck_covered g ({ t := { Vars := v29, Init := v30, Goal := v31, Ops := v32 : GTask }, c := { Bound := v33, Nogoods := v34 : GCertificate }, steps := v35 : GChecker }) y37 v2) (fun z38 z39 c40 =>
        erM z39
         (sel (!z38)
           (some ((Er.no 19), c40))
           (rc (c40.t.Vars, c40.t.Init, c40.t.Goal, c40.t.Ops, c40.c.Bound, c40.c.Nogoods, c40.steps)))
         (fun e41 => some ((Er.no e41), c40))))
def M_ck_step_L1_E (_ : Nat) (_ : Int) (_ : List (List Fact)) : ((List Int) × (List Int) × (List Fact) × (List GOp) × (Int) × (List Nogood) × (Int)) → Option (Er × GChecker) := fun (v29, v30, v31, v32, v33, v34, v35) => some (Er.nil, { t := { Vars := v29, Init := v30, Goal := v31, Ops := v32 : GTask }, c := { Bound := v33, Nogoods := v34 : GCertificate }, steps := v35 : GChecker })
theorem M_ck_step_L1_eq (g : Nat) (v2 : Int) (z7 : List (List Fact)) (v29 : List Int) (v30 : List Int) (v31 : List Fact) (v32 : List GOp) (v33 : Int) (v34 : List Nogood) (v35 : Int) (hl : z7.length < 9223372036854775807) : M_ck_step_L1 g v2 z7 (((z7.map cL_cF).length : Int).toNat + 1) 0 v29 v30 v31 v32 v33 v34 v35 = Rg (M_ck_step_L1_B g v2 z7) (M_ck_step_L1_E g v2 z7) z7 0 (v29, v30, v31, v32, v33, v34, v35) := rg_e1 (L := fun k i p => match p with | (v29, v30, v31, v32, v33, v34, v35) => M_ck_step_L1 g v2 z7 k i v29 v30 v31 v32 v33 v34 v35) hl (fun _ _ ⟨_, _, _, _, _, _, _⟩ => rfl) (v29, v30, v31, v32, v33, v34, v35)
def M_checker_Where_L1_B (a0 : GTask) (_ : GCertificate) (_y25 : Nogood) (_ : Int) : Unit → (Unit → Option (Unit ⊕ (Int × Int × Er))) → Option (Unit ⊕ (Int × Int × Er)) := fun _ rc => ixv _y25 (fun y25 =>
       ob1 (M_task_Holds y25.1 a0.Init) (fun z26 =>
        sel z26
         (some (.inr ((-1), (-1), (Er.no 20))))
         (rc ())))
def M_checker_Where_L1_E (_ : GTask) (_ : GCertificate) : Unit → Option (Unit ⊕ (Int × Int × Er)) := fun _ => some (.inl ())
theorem M_checker_Where_L1_eq (a0 : GTask) (a1 : GCertificate)  (hl : a1.Nogoods.length < 9223372036854775807) : M_checker_Where_L1 a0 a1 (((a1.Nogoods.map cN).length : Int).toNat + 1) 0 = Rg (M_checker_Where_L1_B a0 a1) (M_checker_Where_L1_E a0 a1) a1.Nogoods 0 () := rg_e1 (L := fun k i _ => M_checker_Where_L1 a0 a1 k i) hl (fun _ _ _ => rfl) ()
def M_checker_Where_L2_B (_ : GTask) (g : Nat) (v184 : Int) (y231 : Nogood) (v246 : Int) : ((List Int) × (List Int) × (List Fact) × (List GOp) × (Int) × (List Nogood) × (Int)) → (((List Int) × (List Int) × (List Fact) × (List GOp) × (Int) × (List Nogood) × (Int)) → Option (((List Int) × (List Int) × (List Fact) × (List GOp) × Int × (List Nogood) × Int) ⊕ (Int × Int × Er))) → Option (((List Int) × (List Int) × (List Fact) × (List GOp) × Int × (List Nogood) × Int) ⊕ (Int × Int × Er)) := fun (v247, v248, v249, v250, v251, v252, v253) rc => ob2 (M_ck_step g ({ t := { Vars := v247, Init := v248, Goal := v249, Ops := v250 : GTask }, c := { Bound := v251, Nogoods := v252 : GCertificate }, steps := v253 : GChecker }) y231 v246) (fun z255 c256 =>
       erM z255
        (rc (c256.t.Vars, c256.t.Init, c256.t.Goal, c256.t.Ops, c256.c.Bound, c256.c.Nogoods, c256.steps))
        (fun e257 => some (.inr (v184, v246, (Er.no e257)))))
def M_checker_Where_L2_E (_ : GTask) (_ : Nat) (_ : Int) (_ : Nogood) : ((List Int) × (List Int) × (List Fact) × (List GOp) × (Int) × (List Nogood) × (Int)) → Option (((List Int) × (List Int) × (List Fact) × (List GOp) × Int × (List Nogood) × Int) ⊕ (Int × Int × Er)) := fun (v247, v248, v249, v250, v251, v252, v253) => some (.inl (v247, v248, v249, v250, v251, v252, v253))
theorem M_checker_Where_L2_eq (a0 : GTask) (g : Nat) (v184 : Int) (y231 : Nogood) (v247 : List Int) (v248 : List Int) (v249 : List Fact) (v250 : List GOp) (v251 : Int) (v252 : List Nogood) (v253 : Int) {m : Nat} (hm : ((a0.Ops.map cGOp).length : Int) = (m : Int)) (hl : m < 9223372036854775807) : M_checker_Where_L2 a0 g v184 y231 ((((a0.Ops.map cGOp).length : Int)).toNat + 1) 0 v247 v248 v249 v250 v251 v252 v253 = Rn (M_checker_Where_L2_B a0 g v184 y231) (M_checker_Where_L2_E a0 g v184 y231) m 0 (v247, v248, v249, v250, v251, v252, v253) := rn_e (L := fun k i p => match p with | (v247, v248, v249, v250, v251, v252, v253) => M_checker_Where_L2 a0 g v184 y231 k i v247 v248 v249 v250 v251 v252 v253) hm hl (fun _ _ ⟨_, _, _, _, _, _, _⟩ => rfl) (v247, v248, v249, v250, v251, v252, v253)
def M_checker_Where_L3_B (a0 : GTask) (_ : GCertificate) (g : Nat) (_y231 : Nogood) (v184 : Int) : ((List Int) × (List Int) × (List Fact) × (List GOp) × (Int) × (List Nogood) × (Int)) → (((List Int) × (List Int) × (List Fact) × (List GOp) × (Int) × (List Nogood) × (Int)) → Option (Int × Int × Er)) → Option (Int × Int × Er) := fun (v185, v186, v187, v188, v189, v190, v191) rc => ob1 (ixv _y231 (fun y231 =>
        M_checker_Where_L2 a0 g v184 y231 ((((a0.Ops.map cGOp).length : Int)).toNat + 1) 0 v185 v186 v187 v188 v189 v190 v191) : Option (((List Int) × (List Int) × (List Fact) × (List GOp) × Int × (List Nogood) × Int) ⊕ (Int × Int × Er)))
       (osum
       (fun (v220, v221, v222, v223, v224, v225, v226) => rc (v220, v221, v222, v223, v224, v225, v226))
       (fun (r227, r228, r229) => some (r227, r228, r229)))
def M_checker_Where_L3_E (_ : GTask) (_ : GCertificate) (_ : Nat) : ((List Int) × (List Int) × (List Fact) × (List GOp) × (Int) × (List Nogood) × (Int)) → Option (Int × Int × Er) := fun (_, _, _, _, _, _, _) => some ((-1), (-1), Er.nil)
theorem M_checker_Where_L3_eq (a0 : GTask) (a1 : GCertificate) (g : Nat) (v185 : List Int) (v186 : List Int) (v187 : List Fact) (v188 : List GOp) (v189 : Int) (v190 : List Nogood) (v191 : Int) (hl : a1.Nogoods.length < 9223372036854775807) : M_checker_Where_L3 a0 a1 g (((a1.Nogoods.map cN).length : Int).toNat + 1) 0 v185 v186 v187 v188 v189 v190 v191 = Rg (M_checker_Where_L3_B a0 a1 g) (M_checker_Where_L3_E a0 a1 g) a1.Nogoods 0 (v185, v186, v187, v188, v189, v190, v191) := rg_e2 (L := fun k i p => match p with | (v185, v186, v187, v188, v189, v190, v191) => M_checker_Where_L3 a0 a1 g k i v185 v186 v187 v188 v189 v190 v191) hl (fun k n p y hy h1 h2 => by first | (simp only [M_checker_Where_L3, M_checker_Where_L3_B, List.length_map, decide_lt h1, sel, ix_at hy, ixv, h2]; done) | (simp only [List.length_map] at h1 hy; (simp only [M_checker_Where_L3, M_checker_Where_L3_B, List.length_map, decide_lt h1, sel, ix_at hy, ixv, h2]; done))) (fun k p => by simp only [M_checker_Where_L3, M_checker_Where_L3_E, List.length_map, decide_ge, sel]) (v185, v186, v187, v188, v189, v190, v191)
end Go.Proofs.YtohjegemooakpaaGreat.Am
namespace Go.Proofs.YtohjegemooakpaaGreat.Am
open Go.RowKit
theorem tholds_eq (l : List Fact) (s : List Int) (hl : Sh l) : M_task_Holds l s = some (holdsF s l) := by
  rw [M_task_Holds, M_task_Holds_L1_eq l s hl.lt, rg_all (p := hold1 s) (c := some false)]
  · rw [M_task_Holds_L1_E, holdsF]; cases l.all (hold1 s) <;> rfl
  · intro x _ i rc
    rw [M_task_Holds_L1_B, ixv, sel_dec, sel_dec, List.length_map, hold1]
    by_cases h0 : x.1 < 0
    · rw [if_pos h0, decide_eq_false (by omega), Bool.false_and, if_neg (by decide)]
    · rw [if_neg h0, decide_eq_true (p := 0 ≤ x.1) (by omega), Bool.true_and]
      by_cases h1 : x.1 < s.length
      · rw [if_neg (by omega), decide_eq_true h1, Bool.true_and, ix_getD (d := 0) (by omega) h1, bne]
        cases s.getD x.1.toNat 0 == x.2 <;> rfl
      · rw [if_pos (by omega), decide_eq_false h1, Bool.false_and, if_neg (by decide)]
def limF (l : List Fact) : Bool := l.all fun x => decide (x.1 < 64 ∧ x.2 < 64)
def frmF (l : List Fact) : Bool := vF (-1) l && limF l
theorem formed_loop (l : List Fact) (hs : Sh l) : ∀ (r : List Fact) (n : Nat) (last : Int), l.drop n = r → n ≤ l.length → -1 ≤ last → (n = 0 → last = -1) → (∀ m, n = m + 1 → ∃ x, l[m]? = some x ∧ x.1 = last) → Rg (M_ce_formed_L1_B l) (M_ce_formed_L1_E l) r n () = some (vF last r && limF r)
  | [], _, _, _, _, _, _, _ => rfl
  | y :: r, n, last, hd, hn, hl, h0, hp => by
    rw [Rg, vF, limF, List.all_cons]
    obtain ⟨hy, hd', hlt⟩ := drop_cons hd
    have hih : 0 ≤ y.1 → Rg (M_ce_formed_L1_B l) (M_ce_formed_L1_E l) r ((n : Int) + 1) () = some (vF y.1 r && limF r) := fun h => formed_loop l hs r (n + 1) y.1 hd' hlt (by omega) (by omega) (fun m hm => ⟨y, by rw [show m = n by omega]; exact hy, rfl⟩)
    simp only [M_ce_formed_L1_B, ixv, sel_dec]
    by_cases h1 : y.1 < 0
    · rw [if_pos h1, decide_eq_false (p := last < y.1 ∧ 0 ≤ y.2) (by omega)]; rfl
    · rw [if_neg h1]
      by_cases h2 : y.1 ≥ 64
      · rw [if_pos h2, decide_eq_false (p := y.1 < 64 ∧ y.2 < 64) (by omega), Bool.false_and, Bool.and_false]
      · rw [if_neg h2]
        by_cases h3 : y.2 < 0
        · rw [if_pos h3, decide_eq_false (p := last < y.1 ∧ 0 ≤ y.2) (by omega)]; rfl
        · rw [if_neg h3]
          by_cases h4 : y.2 ≥ 64
          · rw [if_pos h4, decide_eq_false (p := y.1 < 64 ∧ y.2 < 64) (by omega), Bool.false_and, Bool.and_false]
          · rw [if_neg h4, decide_eq_true (p := y.1 < 64 ∧ y.2 < 64) (by omega), Bool.true_and]
            cases n with
            | zero =>
              have := h0 rfl
              rw [if_neg (by omega), decide_eq_true (p := last < y.1 ∧ 0 ≤ y.2) (by omega)]
              exact hih (by omega)
            | succ m =>
              obtain ⟨x, hx, hxl⟩ := hp m rfl
              rw [if_pos (by omega), w64 (by omega) (by have := hs; unfold Sh at this; omega), show (((m + 1 : Nat) : Int) - 1) = (m : Int) by omega, ix_at hx]
              by_cases h5 : x.1 ≥ y.1
              · rw [if_pos h5, decide_eq_false (p := last < y.1 ∧ 0 ≤ y.2) (by omega)]; rfl
              · rw [if_neg h5, decide_eq_true (p := last < y.1 ∧ 0 ≤ y.2) (by omega)]
                exact hih (by omega)
theorem formed_eq (l : List Fact) (hl : Sh l) : M_ce_formed l = some (frmF l) := by
  rw [M_ce_formed, M_ce_formed_L1_eq _ hl.lt]
  exact formed_loop l hl l 0 (-1) rfl (Nat.zero_le _) (by omega) (fun _ => rfl) (fun m hm => by omega)
structure ShC (c : GCertificate) : Prop where
  list : Sh c.Nogoods
  each : ∀ n ∈ c.Nogoods, Sh n.1
def distF (b : Int) (n : Nogood) : Bool := decide (0 ≤ n.2 ∧ (0 ≤ b → n.2 < b) ∧ (b < 0 → n.2 = 0))
def certF (c : GCertificate) : Er :=
  if c.Bound < -1 ∨ c.Bound > 1099511627776 then .no 1
  else if c.Nogoods.length > 4096 then .no 5
  else if (c.Nogoods.all fun n => frmF n.1) = true then (if (c.Nogoods.all (distF c.Bound)) = true then .nil else .no 1)
  else .no 2
theorem ccheck_eq (c : GCertificate) (hc : ShC c) : M_ce_Check c = some (certF c) := by
  rw [M_ce_Check, certF, sel_dec, sel_dec]
  by_cases h1 : c.Bound < -1
  · rw [if_pos h1, if_pos (Or.inl h1)]; rfl
  · rw [if_neg h1]
    by_cases h2 : c.Bound > 1099511627776
    · rw [if_pos h2, if_pos (Or.inr h2)]; rfl
    · rw [if_neg h2, if_neg (by omega), ob1_some, osum_inl, sel_dec, List.length_map]
      by_cases h3 : c.Nogoods.length > 4096
      · rw [if_pos (by omega), if_pos h3]
      · have e1 := M_ce_Check_L1_eq c (by omega)
        have e2 := M_ce_Check_L2_eq c (by omega)
        rw [List.length_map] at e1 e2
        rw [if_neg (by omega), if_neg h3, e1, rg_all (p := fun n : Nogood => frmF n.1) (c := some (.inr (Er.no 2)))]
        · cases ha : c.Nogoods.all fun n => frmF n.1 with
          | false => rw [if_neg (by decide), ob1_some, osum_inr, if_neg (by decide)]
          | true =>
            rw [if_pos rfl, if_pos rfl, M_ce_Check_L1_E, ob1_some, osum_inl, e2, rg_all (p := distF c.Bound) (c := some (Er.no 1)), M_ce_Check_L2_E]
            · split <;> rfl
            · intro n _ i rc
              rw [M_ce_Check_L2_B, ixv, distF]
              simp only [sel_dec]
              by_cases q1 : n.2 < 0
              · rw [if_pos q1, decide_eq_false (by omega)]; rfl
              · rw [if_neg q1]
                by_cases q2 : c.Bound ≥ 0
                · rw [if_pos q2]
                  by_cases q3 : n.2 ≥ c.Bound
                  · rw [if_pos q3, decide_eq_false (by omega)]; rfl
                  · rw [if_neg q3, if_neg (by omega), decide_eq_true (by omega)]; rfl
                · rw [if_neg q2, if_pos (by omega)]
                  by_cases q4 : n.2 = 0
                  · rw [show (n.2 != 0) = false from by simp [q4], sel_ff, decide_eq_true (by omega)]; rfl
                  · rw [show (n.2 != 0) = true from by simp [q4], sel_tt, decide_eq_false (by omega)]; rfl
        · intro n hn i rc
          rw [M_ce_Check_L1_B, ixv, formed_eq n.1 (hc.each n hn), ob1_some]
          cases frmF n.1 <;> rfl
def properF (vars : List Int) (c : GCertificate) : Er :=
  match certF c with
  | .nil => if (c.Nogoods.all fun n => propF vars (-1) n.1) = true then .nil else .no 2
  | .no e => .no e
theorem cproper_eq (vars : List Int) (c : GCertificate) (hc : ShC c) : M_ce_Proper vars c = some (properF vars c) := by
  have e1 := M_ce_Proper_L1_eq vars c hc.list.lt
  rw [M_ce_Proper, ccheck_eq c hc, ob1_some, properF, e1]
  cases certF c with
  | no e => rfl
  | nil =>
    show Rg _ _ _ _ _ = _
    rw [rg_all (p := fun n : Nogood => propF vars (-1) n.1) (c := some (Er.no 2)), M_ce_Proper_L1_E]
    · simp only; split <;> rfl
    · intro n hn i rc
      rw [M_ce_Proper_L1_B, ixv, facts_eq vars n.1 (hc.each n hn), ob1_some]
      cases propF vars (-1) n.1 <;> rfl
structure CertP (vars : List Int) (c : GCertificate) : Prop where
  b0 : -1 ≤ c.Bound
  b1 : c.Bound ≤ 1099511627776
  len : c.Nogoods.length ≤ 4096
  prop : ∀ n ∈ c.Nogoods, propF vars (-1) n.1 = true
  frm : ∀ n ∈ c.Nogoods, frmF n.1 = true
  d0 : ∀ n ∈ c.Nogoods, 0 ≤ n.2
  d1 : ∀ n ∈ c.Nogoods, 0 ≤ c.Bound → n.2 < c.Bound
  d2 : ∀ n ∈ c.Nogoods, c.Bound < 0 → n.2 = 0
theorem certF_nil (c : GCertificate) : certF c = .nil ↔ -1 ≤ c.Bound ∧ c.Bound ≤ 1099511627776 ∧ c.Nogoods.length ≤ 4096 ∧ (∀ n ∈ c.Nogoods, frmF n.1 = true) ∧ ∀ n ∈ c.Nogoods, distF c.Bound n = true := by
  unfold certF
  split
  · exact ⟨(nofun), fun h => by omega⟩
  · split
    · exact ⟨(nofun), fun h => by omega⟩
    · split
      · rename_i h
        rw [List.all_eq_true] at h
        split
        · rename_i h2
          rw [List.all_eq_true] at h2
          exact ⟨fun _ => ⟨by omega, by omega, by omega, h, h2⟩, fun _ => rfl⟩
        · rename_i h2
          rw [List.all_eq_true] at h2
          exact ⟨(nofun), fun hh => absurd hh.2.2.2.2 h2⟩
      · rename_i h
        rw [List.all_eq_true] at h
        exact ⟨(nofun), fun hh => absurd hh.2.2.2.1 h⟩
theorem properF_nil (vars : List Int) (c : GCertificate) : properF vars c = .nil ↔ CertP vars c := by
  unfold properF
  constructor
  · intro h
    cases hc : certF c with
    | no e => rw [hc] at h; cases h
    | nil =>
      rw [hc] at h
      simp only at h
      split at h
      · rename_i ha
        rw [List.all_eq_true] at ha
        obtain ⟨h1, h2, h3, h4, h5⟩ := (certF_nil c).1 hc
        have hd : ∀ n ∈ c.Nogoods, 0 ≤ n.2 ∧ (0 ≤ c.Bound → n.2 < c.Bound) ∧ (c.Bound < 0 → n.2 = 0) := fun n hn => of_decide_eq_true (h5 n hn)
        exact ⟨h1, h2, h3, ha, h4, fun n hn => (hd n hn).1, fun n hn => (hd n hn).2.1, fun n hn => (hd n hn).2.2⟩
      · cases h
  · intro h
    rw [(certF_nil c).2 ⟨h.b0, h.b1, h.len, h.frm, fun n hn => decide_eq_true ⟨h.d0 n hn, h.d1 n hn, h.d2 n hn⟩⟩]
    simp only
    rw [if_pos (List.all_eq_true.2 h.prop)]
end Go.Proofs.YtohjegemooakpaaGreat.Am
namespace Go.Proofs.YtohjegemooakpaaGreat.Am
open Go.RowKit
def countL (ns : List Nogood) (d : Int) : List (List Fact) := (ns.filter fun n => decide (n.2 ≤ d)).map (·.1)
theorem count_loop (x : GChecker) (d : Int) : ∀ (r : List Nogood) (i : Int) (v : List (List Fact)), v.length + r.length ≤ 1000000 →
    Rg (M_ck_counting_L1_B x d) (M_ck_counting_L1_E x d) r i v = some (v ++ countL r d)
  | [], i, v, h => by rw [Rg, M_ck_counting_L1_E, grd_t (by simp at h; omega)]; simp [countL]
  | n :: r, i, v, h => by
    rw [List.length_cons] at h
    rw [Rg, M_ck_counting_L1_B, ixv, sel_dec]
    by_cases hd : n.2 ≤ d
    · rw [if_pos hd, grd_t (by omega), count_loop x d r _ _ (by simp; omega)]
      simp [countL, hd]
    · rw [if_neg hd, count_loop x d r _ _ (by omega)]
      simp [countL, hd]
theorem counting_eq (x : GChecker) (d : Int) (h : x.c.Nogoods.length ≤ 4096) : M_ck_counting x d = some (countL x.c.Nogoods d) := by
  rw [M_ck_counting, M_ck_counting_L1_eq x d [] (by omega), count_loop x d _ _ _ (by simp; omega), List.nil_append]
theorem count_prop {vars : List Int} {c : GCertificate} (h : CertP vars c) (d : Int) : PropL vars (countL c.Nogoods d) := fun x hx => by
  obtain ⟨n, hn, rfl⟩ := List.mem_map.1 hx
  exact h.prop n (List.mem_filter.1 hn).1
theorem count_len {vars : List Int} {c : GCertificate} (h : CertP vars c) (d : Int) : (countL c.Nogoods d).length ≤ 4096 := by
  unfold countL
  rw [List.length_map]
  exact Nat.le_trans (List.length_filter_le _ _) h.len
def askC (t : GTask) (c : GCertificate) (p : List Fact) (d r : Int) : Bool × Er × Int :=
  if (covA t.Vars p (countL c.Nogoods d)).2 ≤ r then ((covA t.Vars p (countL c.Nogoods d)).1, .nil, r - (covA t.Vars p (countL c.Nogoods d)).2) else (false, .no 10, r)
theorem covA_pos (vars : List Int) (p : List Fact) (l : List (List Fact)) : 1 ≤ (covA vars p l).2 := decA_pos _ _ _ _
theorem askC_r {t : GTask} {c : GCertificate} {p : List Fact} {d r : Int} (h : 0 ≤ r ∧ r ≤ 1048576) : 0 ≤ (askC t c p d r).2.2 ∧ (askC t c p d r).2.2 ≤ 1048576 := by
  have := covA_pos t.Vars p (countL c.Nogoods d)
  unfold askC
  split
  · show 0 ≤ r - _ ∧ r - _ ≤ _; omega
  · exact h
theorem ask_eq {t : GTask} {c : GCertificate} (hd : DomP t.Vars) (hc : CertP t.Vars c) (g : Nat) (hg : 70 ≤ g) (p : List Fact) (hp : propF t.Vars (-1) p = true) (d r : Int) (hr : 0 ≤ r ∧ r ≤ 1048576) :
    M_ck_covered g { t := t, c := c, steps := r } p d = some ((askC t c p d r).1, (askC t c p d r).2.1, { t := t, c := c, steps := (askC t c p d r).2.2 }) := by
  have hl := count_len hc d
  rw [M_ck_covered, counting_eq _ d hc.len, ob1_some]
  show ob3 (M_p_Covered g t.Vars p (countL c.Nogoods d) r) _ = _
  rw [covered_eq hd hp (count_prop hc d) (by omega) r (by omega) g (by omega), covR, askC]
  have hpos := covA_pos t.Vars p (countL c.Nogoods d)
  by_cases h : (covA t.Vars p (countL c.Nogoods d)).2 ≤ r
  · rw [if_pos h, if_pos h, ob3_some]
    show some (_, _, _) = some (_, _, _)
    rw [wrap_eq (by show _ ≤ r - _; omega) (by show r - _ ≤ _; omega)]
  · rw [if_neg h, if_neg h, ob3_some]; rfl
def stepL (t : GTask) (c : GCertificate) (d : Int) : List (List Fact) → Int → Er × Int
  | [], r => (.nil, r)
  | p :: ps, r => match askC t c p d r with
    | (true, .nil, r') => stepL t c d ps r'
    | (false, .nil, r') => (.no 19, r')
    | (_, .no e, r') => (.no e, r')
theorem stepL_r (t : GTask) (c : GCertificate) (d : Int) : ∀ (l : List (List Fact)) (r : Int), 0 ≤ r ∧ r ≤ 1048576 → 0 ≤ (stepL t c d l r).2 ∧ (stepL t c d l r).2 ≤ 1048576
  | [], r, h => h
  | p :: ps, r, h => by
    have ha := askC_r (t := t) (c := c) (p := p) (d := d) h
    rw [stepL]
    rcases hq : askC t c p d r with ⟨b, e, r'⟩
    rw [hq] at ha
    cases e with
    | no e => cases b <;> exact ha
    | nil =>
      cases b with
      | false => exact ha
      | true => exact stepL_r t c d ps r' ha
theorem step_loop {t : GTask} {c : GCertificate} (hd : DomP t.Vars) (hc : CertP t.Vars c) (g : Nat) (hg : 70 ≤ g) (d : Int) (z : List (List Fact)) : ∀ (l : List (List Fact)) (i r : Int), PropL t.Vars l → 0 ≤ r ∧ r ≤ 1048576 →
    Rg (M_ck_step_L1_B g d z) (M_ck_step_L1_E g d z) l i (t.Vars, t.Init, t.Goal, t.Ops, c.Bound, c.Nogoods, r) = some ((stepL t c d l r).1, { t := t, c := c, steps := (stepL t c d l r).2 })
  | [], i, r, _, _ => rfl
  | p :: ps, i, r, hl, hr => by
    rw [Rg, M_ck_step_L1_B]
    show ixv p (fun y37 => ob3 (M_ck_covered g { t := t, c := c, steps := r } y37 d) _) = _
    rw [ixv, ask_eq hd hc g hg p (hl p (List.mem_cons_self ..)) d r hr, ob3_some, stepL]
    have ha := askC_r (t := t) (c := c) (p := p) (d := d) hr
    rcases hq : askC t c p d r with ⟨b, e, r'⟩
    rw [hq] at ha
    cases e with
    | no e => cases b <;> rfl
    | nil =>
      cases b with
      | false => rfl
      | true => exact step_loop hd hc g hg d z ps _ r' (fun x hx => hl x (List.mem_cons_of_mem _ hx)) ha
def distO (c : GCertificate) (n : Nogood) (o : GOp) : Int := if 0 ≤ c.Bound then n.2 + o.Cost else 0
def skipO (c : GCertificate) (n : Nogood) (o : GOp) : Bool := decide (0 ≤ c.Bound ∧ c.Bound ≤ n.2 + o.Cost)
def stepO (t : GTask) (c : GCertificate) (n : Nogood) (o : GOp) (r : Int) : Er × Int :=
  if skipO c n o = true then (.nil, r)
  else match regO t.Vars o n.1 with
    | none => (.no 5, r)
    | some l => stepL t c (distO c n o) l r
theorem stepO_r (t : GTask) (c : GCertificate) (n : Nogood) (o : GOp) (r : Int) (h : 0 ≤ r ∧ r ≤ 1048576) : 0 ≤ (stepO t c n o r).2 ∧ (stepO t c n o r).2 ≤ 1048576 := by
  unfold stepO
  split
  · exact h
  · split
    · exact h
    · exact stepL_r _ _ _ _ _ h
theorem regO_len {t : GTask} (hgood : goodF t = true) {p : List Fact} (hpf : propF t.Vars (-1) p = true) {o : GOp} (ho : o ∈ t.Ops) {l : List (List Fact)} (h : regO t.Vars o p = some l) : PropL t.Vars l ∧ l.length ≤ 1024 := by
  unfold regO at h
  cases hr : regG t.Vars o p [o.Pre] with
  | none => rw [hr] at h; cases h
  | some m =>
    rw [hr, Option.map_some] at h
    obtain rfl := Option.some.inj h
    obtain ⟨l1, -, l3⟩ := pre_prop hgood hpf ho hr
    refine ⟨fun x hx => l1 x (List.mem_filter.1 ((sortLL_mem x _).1 hx)).1, ?_⟩
    rw [sortLL_length]
    exact Nat.le_trans (List.length_filter_le _ _) l3
theorem good_cost {t : GTask} (h : goodF t = true) {o : GOp} (ho : o ∈ t.Ops) : 0 ≤ o.Cost ∧ o.Cost ≤ 1048576 := by
  unfold goodF at h
  simp only [Bool.and_eq_true, List.all_eq_true] at h
  have := h.2.2.2.2 o ho
  unfold opF at this
  simp only [Bool.and_eq_true, decide_eq_true_iff] at this
  exact ⟨this.1.1, this.1.2.1⟩
theorem step_eq {t : GTask} (ht : ShT t) (hgood : goodF t = true) {c : GCertificate} (hc : CertP t.Vars c) (g : Nat) (hg : 70 ≤ g) (n : Nogood) (hn : n ∈ c.Nogoods) (j : Nat) (o : GOp) (hj : t.Ops[j]? = some o) (r : Int) (hr : 0 ≤ r ∧ r ≤ 1048576) :
    M_ck_step g { t := t, c := c, steps := r } n j = some ((stepO t c n o r).1, { t := t, c := c, steps := (stepO t c n o r).2 }) := by
  have hd := good_dom hgood
  have ho := List.mem_of_getElem? hj
  have hcost := good_cost hgood ho
  have hn0 := hc.d0 n hn
  have hn1 := hc.d1 n hn
  have hb1 := hc.b1
  have hw : 0 ≤ c.Bound → IntKind.i64.wrap (n.2 + o.Cost) = n.2 + o.Cost := fun h => wrap_eq (by omega) (by have := hn1 h; omega)
  have hreg : ∀ v : Int, v = distO c n o → skipO c n o = false → ob2 (M_g_Regress g t (j : Int) n.1) (fun z7 z8 =>
      erM z8 (M_ck_step_L1 g v z7 ((((z7.map cL_cF).length : Int)).toNat + 1) 0 t.Vars t.Init t.Goal t.Ops c.Bound c.Nogoods r)
       (fun e9 => some ((Er.no e9), ({ t := t, c := c, steps := r } : GChecker)))) = some ((stepO t c n o r).1, { t := t, c := c, steps := (stepO t c n o r).2 }) := by
    intro v hv hs
    rw [regress_eq t ht hgood n.1 (hc.prop n hn) g hg (j : Int) o (by omega) (by rw [Int.toNat_natCast]; exact hj), ob2_res, stepO, hs, if_neg (by decide)]
    cases hro : regO t.Vars o n.1 with
    | none => rfl
    | some l =>
      obtain ⟨l1, l2⟩ := regO_len hgood (hc.prop n hn) ho hro
      simp only
      rw [M_ck_step_L1_eq g v l _ _ _ _ _ _ _ (by omega), step_loop hd hc g hg v l l 0 r l1 hr, hv]
  rw [M_ck_step]
  simp only [sel_dec, ge_iff_le]
  by_cases h : 0 ≤ c.Bound
  · rw [if_pos h, ix_at hj, hw h]
    by_cases h2 : c.Bound ≤ n.2 + o.Cost
    · have hs : skipO c n o = true := decide_eq_true ⟨h, h2⟩
      rw [if_pos h2, ob1_some, osum_inr, stepO, hs, if_pos rfl]
    · rw [if_neg h2, ob1_some, osum_inl]
      exact hreg _ (by rw [distO, if_pos h]) (decide_eq_false (by omega))
  · rw [if_neg h, ob1_some, osum_inl]
    exact hreg _ (by rw [distO, if_neg h]) (decide_eq_false (by omega))
def opsC (t : GTask) (c : GCertificate) (n : Nogood) (i : Int) : List GOp → Int → Int → Int ⊕ (Int × Int × Er)
  | [], _, r => .inl r
  | o :: os, j, r => match stepO t c n o r with
    | (.nil, r') => opsC t c n i os (j + 1) r'
    | (.no e, _) => .inr (i, j, .no e)
def nogC (t : GTask) (c : GCertificate) : List Nogood → Int → Int → Int × Int × Er
  | [], _, _ => (-1, -1, .nil)
  | n :: ns, i, r => match opsC t c n i t.Ops 0 r with
    | .inl r' => nogC t c ns (i + 1) r'
    | .inr x => x
theorem opsC_r (t : GTask) (c : GCertificate) (n : Nogood) (i : Int) : ∀ (l : List GOp) (j r : Int), 0 ≤ r ∧ r ≤ 1048576 → ∀ r', opsC t c n i l j r = .inl r' → 0 ≤ r' ∧ r' ≤ 1048576
  | [], j, r, h, r', e => by rw [opsC] at e; injection e with e; omega
  | o :: os, j, r, h, r', e => by
    have hs := stepO_r t c n o r h
    rw [opsC] at e
    rcases hq : stepO t c n o r with ⟨x, y⟩
    rw [hq] at e hs
    cases x with
    | no x => cases e
    | nil => exact opsC_r t c n i os (j + 1) y hs r' e
theorem ops_loop {t : GTask} (ht : ShT t) (hgood : goodF t = true) {c : GCertificate} (hc : CertP t.Vars c) (g : Nat) (hg : 70 ≤ g) (n : Nogood) (hn : n ∈ c.Nogoods) (i : Int) : ∀ (l : List GOp) (m j : Nat) (r : Int), t.Ops.drop j = l → l.length = m → 0 ≤ r ∧ r ≤ 1048576 →
    Rn (M_checker_Where_L2_B t g i n) (M_checker_Where_L2_E t g i n) m j (t.Vars, t.Init, t.Goal, t.Ops, c.Bound, c.Nogoods, r) = some (match opsC t c n i l j r with | .inl r' => .inl (t.Vars, t.Init, t.Goal, t.Ops, c.Bound, c.Nogoods, r') | .inr x => .inr x)
  | [], m, j, r, _, hm, _ => by subst hm; rfl
  | o :: os, m, j, r, hdr, hm, hr => by
    obtain ⟨hj, hd', hlt⟩ := drop_cons hdr
    obtain ⟨m, rfl⟩ : ∃ k, m = k + 1 := ⟨os.length, hm.symm⟩
    rw [Rn, M_checker_Where_L2_B]
    show ob2 (M_ck_step g { t := t, c := c, steps := r } n (j : Int)) _ = _
    have hs := stepO_r t c n o r hr
    rw [step_eq ht hgood hc g hg n hn j o hj r hr, ob2_some, opsC]
    rcases hq : stepO t c n o r with ⟨x, y⟩
    rw [hq] at hs
    cases x with
    | no x => rfl
    | nil => exact ops_loop ht hgood hc g hg n hn i os m (j + 1) y hd' (by simpa using hm) hs
theorem nog_loop {t : GTask} (ht : ShT t) (hgood : goodF t = true) {c : GCertificate} (hc : CertP t.Vars c) (g : Nat) (hg : 70 ≤ g) : ∀ (l : List Nogood) (i r : Int), (∀ n ∈ l, n ∈ c.Nogoods) → 0 ≤ r ∧ r ≤ 1048576 →
    Rg (M_checker_Where_L3_B t c g) (M_checker_Where_L3_E t c g) l i (t.Vars, t.Init, t.Goal, t.Ops, c.Bound, c.Nogoods, r) = some (nogC t c l i r)
  | [], i, r, _, _ => rfl
  | n :: ns, i, r, hl, hr => by
    have hops : t.Ops.length ≤ 4096 := by
      unfold goodF at hgood
      simp only [Bool.and_eq_true, decide_eq_true_iff] at hgood
      exact hgood.1.2
    rw [Rg, M_checker_Where_L3_B]
    show ob1 (ixv n (fun y231 => M_checker_Where_L2 t g i y231 ((((t.Ops.map cGOp).length : Int)).toNat + 1) 0 t.Vars t.Init t.Goal t.Ops c.Bound c.Nogoods r)) _ = _
    rw [ixv, M_checker_Where_L2_eq t g i n _ _ _ _ _ _ _ (m := t.Ops.length) (by rw [List.length_map]) (by omega)]
    have e := ops_loop ht hgood hc g hg n (hl n (List.mem_cons_self ..)) i t.Ops t.Ops.length 0 r rfl rfl hr
    have e' : Rn (M_checker_Where_L2_B t g i n) (M_checker_Where_L2_E t g i n) t.Ops.length 0 (t.Vars, t.Init, t.Goal, t.Ops, c.Bound, c.Nogoods, r) = _ := e
    rw [e', ob1_some, nogC]
    have hr2 := opsC_r t c n i t.Ops 0 r hr
    show osum _ _ (match opsC t c n i t.Ops 0 r with | .inl r' => _ | .inr x => _) = _
    cases ho : opsC t c n i t.Ops 0 r with
    | inl r' => exact nog_loop ht hgood hc g hg ns _ r' (fun x hx => hl x (List.mem_cons_of_mem _ hx)) (hr2 r' ho)
    | inr x => rfl
def whereC (t : GTask) (c : GCertificate) (r : Int) : Int × Int × Er :=
  if c.Nogoods.any (fun n => holdsF t.Init n.1) = true then (-1, -1, .no 20)
  else if c.Bound = 0 then nogC t c c.Nogoods 0 r
  else match askC t c t.Goal 0 r with
    | (true, .nil, r') => nogC t c c.Nogoods 0 r'
    | (false, .nil, _) => (-1, -1, .no 13)
    | (_, .no e, _) => (-1, -1, .no e)
def whereF (t : GTask) (c : GCertificate) (steps : Int) : Int × Int × Er :=
  match checkF t with
  | .no e => (-1, -1, .no e)
  | .nil => match properF t.Vars c with
    | .no e => (-1, -1, .no e)
    | .nil => whereC t c (max 0 (min steps 1048576))
theorem where_eq (t : GTask) (ht : ShT t) (c : GCertificate) (hc : ShC c) (steps : Int) (g : Nat) (hg : 70 ≤ g) : M_checker_Where g t c steps = some (whereF t c steps) := by
  rw [M_checker_Where, check_eq t ht, ob1_some, whereF]
  cases hck : checkF t with
  | no e => rfl
  | nil =>
    have hgood := (good_check t).2 hck
    show ob1 (M_ce_Proper t.Vars c) _ = _
    rw [cproper_eq t.Vars c hc, ob1_some]
    cases hpr : properF t.Vars c with
    | no e => rfl
    | nil =>
      have hcp := (properF_nil t.Vars c).1 hpr
      have hd := good_dom hgood
      have e1 := M_checker_Where_L1_eq t c hc.list.lt
      have hr : 0 ≤ max 0 (min steps 1048576) ∧ max 0 (min steps 1048576) ≤ 1048576 := by omega
      have hgoal : propF t.Vars (-1) t.Goal = true := by
        unfold goodF at hgood
        simp only [Bool.and_eq_true] at hgood
        exact hgood.2.2.2.1
      show ob1 (M_checker_Where_L1 t c _ 0) _ = _
      rw [e1, rg_all (p := fun n : Nogood => !holdsF t.Init n.1) (c := some (.inr ((-1), (-1), (Er.no 20)))), whereC]
      · have hna : (c.Nogoods.all fun n => !holdsF t.Init n.1) = !(c.Nogoods.any fun n => holdsF t.Init n.1) := by rw [List.not_any_eq_all_not]
        rw [hna]
        cases ha : c.Nogoods.any fun n => holdsF t.Init n.1 with
        | true => rfl
        | false =>
          rw [Bool.not_false, if_pos rfl, M_checker_Where_L1_E, ob1_some, osum_inl, if_neg (by decide)]
          have hnog : ∀ r : Int, 0 ≤ r ∧ r ≤ 1048576 → M_checker_Where_L3 t c g ((((c.Nogoods.map cN).length : Int)).toNat + 1) 0 t.Vars t.Init t.Goal t.Ops c.Bound c.Nogoods r = some (nogC t c c.Nogoods 0 r) := fun r hr => by
            rw [M_checker_Where_L3_eq t c g _ _ _ _ _ _ _ hc.list.lt, nog_loop ht hgood hcp g hg c.Nogoods 0 r (fun _ h => h) hr]
          by_cases hb : c.Bound = 0
          · rw [if_pos hb, show (c.Bound != 0) = false from by simp [hb], sel_ff, ob1_some, osum_inl]
            exact hnog _ hr
          · rw [if_neg hb, show (c.Bound != 0) = true from by simp [hb], sel_tt, ask_eq hd hcp g hg t.Goal hgoal 0 _ hr, ob3_some]
            have ha := askC_r (t := t) (c := c) (p := t.Goal) (d := 0) hr
            rcases hq : askC t c t.Goal 0 (max 0 (min steps 1048576)) with ⟨b, e, r'⟩
            rw [hq] at ha
            cases e with
            | no e => cases b <;> rfl
            | nil =>
              cases b with
              | false => rfl
              | true => exact hnog r' ha
      · intro n hn i rc
        rw [M_checker_Where_L1_B, ixv, tholds_eq n.1 t.Init (hc.each n hn), ob1_some]
        cases holdsF t.Init n.1 <;> rfl
def verF (t : GTask) (c : GCertificate) (steps : Int) : Er := (whereF t c steps).2.2
theorem verify_eq (t : GTask) (ht : ShT t) (c : GCertificate) (hc : ShC c) (steps : Int) (g : Nat) (hg : 70 ≤ g) : M_checker_Verify g t c steps = some (verF t c steps) := by
  rw [M_checker_Verify, where_eq t ht c hc steps g hg]
  rfl
end Go.Proofs.YtohjegemooakpaaGreat.Am
namespace Go.Proofs.YtohjegemooakpaaGreat.Am
open Go.RowKit
def claimsF (ns : List Nogood) (s : List Int) (d : Int) : Bool := ns.any fun n => decide (n.2 ≤ d) && holdsF s n.1
theorem some_count {s : List Int} {ns : List Nogood} {d : Int} : some1 s (countL ns d) ↔ claimsF ns s d = true := by
  unfold some1 countL claimsF
  rw [List.any_eq_true]
  constructor
  · rintro ⟨z, hz, h⟩
    obtain ⟨n, hn, rfl⟩ := List.mem_map.1 hz
    obtain ⟨h1, h2⟩ := List.mem_filter.1 hn
    exact ⟨n, h1, by rw [h2, h]; rfl⟩
  · rintro ⟨n, hn, h⟩
    rw [Bool.and_eq_true] at h
    exact ⟨n.1, List.mem_map.2 ⟨n, List.mem_filter.2 ⟨hn, h.1⟩, rfl⟩, h.2⟩
def covB (t : GTask) (c : GCertificate) (d : Int) (p : List Fact) : Bool := (covA t.Vars p (countL c.Nogoods d)).1
theorem covB_true {t : GTask} (hgood : goodF t = true) {c : GCertificate} (hc : CertP t.Vars c) {p : List Fact} (hp : propF t.Vars (-1) p = true) (d : Int) : covB t c d p = true ↔ ∀ s, stateF t.Vars s = true → holdsF s p = true → claimsF c.Nogoods s d = true := by
  rw [covB, covA_true (good_dom hgood) hp (count_prop hc d)]
  exact forall_congr' fun s => by rw [some_count]
def inF (o : GOp) (p : List Fact) (s : List Int) : Bool := holdsF s o.Pre && holdsF (nextF s o) p
theorem inF_iff {t : GTask} (hgood : goodF t = true) {o : GOp} (ho : o ∈ t.Ops) {s : List Int} (hs : StP t.Vars s) {p : List Fact} (hp : propF t.Vars (-1) p = true) {l : List (List Fact)} (h : regO t.Vars o p = some l) : some1 s l ↔ inF o p s = true := by
  rw [some_regO hgood ho hs hp h, inF, Bool.and_eq_true, holds_next hgood hs ho hp]
structure Acc (t : GTask) (c : GCertificate) : Prop where
  init : ∀ n ∈ c.Nogoods, holdsF t.Init n.1 = false
  goal : c.Bound ≠ 0 → ∀ s ∈ allF t, holdsF s t.Goal = true → claimsF c.Nogoods s 0 = true
  step : ∀ n ∈ c.Nogoods, ∀ o ∈ t.Ops, skipO c n o = false → ∀ s ∈ allF t, inF o n.1 s = true → claimsF c.Nogoods s (distO c n o) = true
theorem good_goal {t : GTask} (h : goodF t = true) : propF t.Vars (-1) t.Goal = true := by
  unfold goodF at h
  simp only [Bool.and_eq_true] at h
  exact h.2.2.2.1
end Go.Proofs.YtohjegemooakpaaGreat.Am
namespace Go.Proofs.YtohjegemooakpaaGreat.Am
open Go.RowKit
def condN (es : List GEffect) : Nat := (es.filter fun e => decide (0 < e.When.length)).length
theorem condN_le (es : List GEffect) : condN es ≤ es.length := List.length_filter_le _ _
theorem condN_cons (e : GEffect) (es : List GEffect) : condN (e :: es) = (if 0 < e.When.length then 1 else 0) + condN es := by
  unfold condN
  rw [List.filter_cons]
  by_cases h : 0 < e.When.length
  · rw [if_pos (decide_eq_true h), if_pos h, List.length_cons]; omega
  · rw [if_neg (by simpa using h), if_neg h]; omega
def twoF (es : List GEffect) : Bool := es.all fun e => decide (e.When.length ≤ 2)
theorem tame2 (o : GOp) : ∀ (r : List GEffect) (i : Int) (v : Nat), v + r.length ≤ 1000000 → Rg (M_b_Tame_L2_B o) (M_b_Tame_L2_E o) r i v = some (if twoF r = true then .inl ((v + condN r : Nat) : Int) else .inr false)
  | [], i, v, _ => rfl
  | e :: r, i, v, h => by
    rw [List.length_cons] at h
    rw [Rg, M_b_Tame_L2_B, ixv, sel_dec, sel_dec, List.length_map, twoF, List.all_cons, condN_cons]
    by_cases h1 : e.When.length > 2
    · rw [if_pos (by omega), decide_eq_false (by omega), Bool.false_and, if_neg (by decide)]
    · rw [if_neg (by omega), decide_eq_true (p := e.When.length ≤ 2) (by omega), Bool.true_and]
      by_cases h2 : 0 < e.When.length
      · rw [if_pos (by omega), if_pos h2, wrap_eq (by omega) (by omega), show ((v : Int) + 1) = ((v + 1 : Nat) : Int) from rfl, tame2 o r _ (v + 1) (by omega), Nat.add_assoc]; rfl
      · rw [if_neg (by omega), if_neg h2, tame2 o r _ v (by omega), Nat.zero_add]; rfl
def tameO (o : GOp) : Bool := twoF o.Effs && decide (condN o.Effs ≤ 3)
def tameF (t : GTask) : Bool := smallF t && (t.Vars.all (fun n => decide (2 ≤ n ∧ n ≤ 4)) && t.Ops.all tameO)
theorem tame_eq (t : GTask) (ht : ShT t) : M_b_Tame t = some (tameF t) := by
  rw [M_b_Tame, small_eq t ht, ob1_some, tameF]
  cases hs : smallF t with
  | false => rfl
  | true =>
    obtain ⟨hgood, hv, ho⟩ := small_good hs
    have e1 := M_b_Tame_L1_eq t (by omega)
    have e3 := M_b_Tame_L3_eq t (by omega)
    rw [Bool.not_true, sel_ff, e1, rg_all (p := fun n : Int => decide (2 ≤ n ∧ n ≤ 4)) (c := some (.inr false))]
    · cases t.Vars.all fun n => decide (2 ≤ n ∧ n ≤ 4) with
      | false => rfl
      | true =>
        rw [if_pos rfl, M_b_Tame_L1_E, ob1_some, osum_inl, e3, rg_all (p := tameO) (c := some false), M_b_Tame_L3_E]
        · cases t.Ops.all tameO <;> rfl
        · intro o hom i rc
          have hl := (good_op hgood hom).effs
          have e2 := M_b_Tame_L2_eq o 0 (show o.Effs.length < _ by omega)
          have e2' : Rg (M_b_Tame_L2_B o) (M_b_Tame_L2_E o) o.Effs 0 0 = _ := tame2 o o.Effs 0 0 (by omega)
          have hc := condN_le o.Effs
          rw [M_b_Tame_L3_B, ixv, e2, e2', Nat.zero_add, ob1_some, tameO]
          cases twoF o.Effs with
          | false => rfl
          | true =>
            rw [if_pos rfl, osum_inl, sel_dec, Bool.true_and]
            by_cases h3 : condN o.Effs ≤ 3
            · rw [if_neg (by omega), if_pos (decide_eq_true h3)]; rfl
            · rw [if_pos (by omega), if_neg (by simpa using h3)]; rfl
    · intro n _ i rc
      rw [M_b_Tame_L1_B, ixv, sel_dec, sel_dec]
      by_cases h1 : n < 2
      · rw [if_pos h1, if_neg (by rw [decide_eq_true_iff]; omega)]
      · rw [if_neg h1]
        by_cases h2 : n > 4
        · rw [if_pos h2, if_neg (by rw [decide_eq_true_iff]; omega)]
        · rw [if_neg h2, if_pos (by rw [decide_eq_true_iff]; omega)]
theorem tame_small {t : GTask} (h : tameF t = true) : smallF t = true := by
  unfold tameF at h
  rw [Bool.and_eq_true] at h
  exact h.1
end Go.Proofs.YtohjegemooakpaaGreat.Am
namespace Go.Proofs.YtohjegemooakpaaGreat.Am
open Go.RowKit
def ptX (i : Int) (p : List Fact) : Nat → Int → List (List Fact)
  | 0, _ => []
  | m + 1, x => ((i, x) :: p) :: ptX i p m (x + 1)
def ptL : Int → List Int → List (List Fact)
  | _, [] => [[]]
  | i, n :: r => ptL (i + 1) r ++ (ptL (i + 1) r).flatMap fun p => ptX i p n.toNat 0
def ptN : List Int → Nat
  | [] => 1
  | n :: r => (n.toNat + 1) * ptN r
theorem ptX_len (i : Int) (p : List Fact) : ∀ (m : Nat) (x : Int), (ptX i p m x).length = m
  | 0, _ => rfl
  | m + 1, x => by rw [ptX, List.length_cons, ptX_len i p m]
theorem ptX_mem (i : Int) (p : List Fact) : ∀ (m : Nat) (x y : Int), x ≤ y → y < x + m → (i, y) :: p ∈ ptX i p m x
  | 0, x, y, h1, h2 => by omega
  | m + 1, x, y, h1, h2 => by
    rw [ptX, List.mem_cons]
    by_cases h : y = x
    · exact .inl (by rw [h])
    · exact .inr (ptX_mem i p m (x + 1) y (by omega) (by omega))
theorem ptL_len : ∀ (r : List Int) (i : Int), (ptL i r).length = ptN r
  | [], _ => rfl
  | n :: r, i => by
    have h : ∀ l : List (List Fact), (l.flatMap fun p => ptX i p n.toNat 0).length = l.length * n.toNat := by
      intro l
      induction l with
      | nil => simp
      | cons p l ih => rw [List.flatMap_cons, List.length_append, ptX_len, ih, List.length_cons, Nat.succ_mul]; omega
    rw [ptL, List.length_append, h, ptL_len r, ptN, Nat.succ_mul, Nat.mul_comm n.toNat]
    omega
theorem propF_up {vars : List Int} {last i : Int} {y : Fact} {q : List Fact} (h : propF vars last (y :: q) = true) (hi : i < y.1) : propF vars i (y :: q) = true := by
  rw [propF, Bool.and_eq_true, decide_eq_true_iff] at h ⊢
  exact ⟨⟨hi, h.1.2⟩, h.2⟩
theorem ptL_mem {vars : List Int} : ∀ (r : List Int) (i : Nat), vars.drop i = r → ∀ (p : List Fact) (last : Int), (i : Int) - 1 ≤ last → propF vars last p = true → p ∈ ptL i r
  | [], i, hd, [], last, h1, h2 => by rw [ptL]; exact List.mem_singleton.2 rfl
  | [], i, hd, y :: q, last, h1, h2 => by
    rw [propF, Bool.and_eq_true, decide_eq_true_iff] at h2
    have : vars.length ≤ i := by rw [← List.drop_eq_nil_iff]; exact hd
    omega
  | n :: r, i, hd, p, last, h1, h2 => by
    obtain ⟨hn, hd', hlt⟩ := drop_cons hd
    have ih := ptL_mem r (i + 1) hd'
    rw [show ((i + 1 : Nat) : Int) = (i : Int) + 1 from rfl] at ih
    rw [ptL, List.mem_append]
    cases p with
    | nil => exact .inl (ih [] (i : Int) (by omega) rfl)
    | cons y q =>
      have h3 := h2
      rw [propF, Bool.and_eq_true, decide_eq_true_iff] at h3
      by_cases hy : y.1 = i
      · refine .inr (List.mem_flatMap.2 ⟨q, ih q y.1 (by omega) h3.2, ?_⟩)
        have hg : vars.getD y.1.toNat 0 = n := by rw [hy, Int.toNat_natCast, List.getD_eq_getElem?_getD, hn]; rfl
        have := ptX_mem i q n.toNat 0 y.2 h3.1.2.2.1 (by have := h3.1.2.2.2; rw [hg] at this; omega)
        rw [← hy] at this ⊢
        exact this
      · exact .inl (ih (y :: q) (i : Int) (by omega) (propF_up h2 (by omega)))
theorem ptN_le : ∀ {r : List Int}, (∀ k ∈ r, 2 ≤ k) → 2 ^ r.length * ptN r ≤ 3 ^ r.length * prodN r ∧ 2 ^ r.length ≤ prodN r
  | [], _ => ⟨Nat.le_refl _, Nat.le_refl _⟩
  | k :: r, h => by
    obtain ⟨h1, h2⟩ := ptN_le (r := r) fun x hx => h x (List.mem_cons_of_mem _ hx)
    have hk := h k (List.mem_cons_self ..)
    obtain ⟨q, rfl⟩ : ∃ q : Nat, k = q := ⟨k.toNat, by omega⟩
    rw [List.length_cons, ptN, prodN, Int.toNat_natCast, Nat.pow_succ, Nat.pow_succ]
    have h3 : 2 * (q + 1) ≤ 3 * q := by omega
    constructor
    · calc 2 ^ r.length * 2 * ((q + 1) * ptN r) = (2 * (q + 1)) * (2 ^ r.length * ptN r) := by ac_rfl
        _ ≤ (3 * q) * (3 ^ r.length * prodN r) := Nat.mul_le_mul h3 h1
        _ = 3 ^ r.length * 3 * (q * prodN r) := by ac_rfl
    · rw [Nat.mul_comm]
      exact Nat.mul_le_mul (by omega) h2
theorem pt_small {v : List Int} (h2 : ∀ k ∈ v, 2 ≤ k) (hp : prodN v ≤ 81) : ptN v ≤ 1024 := by
  obtain ⟨h1, h3⟩ := ptN_le h2
  have hk : v.length < 7 := by
    refine Nat.lt_of_not_le fun h => ?_
    have := Nat.pow_le_pow_right (show 0 < 2 by decide) h
    omega
  have h4 : 2 ^ v.length * ptN v ≤ 3 ^ v.length * 81 := Nat.le_trans h1 (Nat.mul_le_mul_left _ hp)
  generalize v.length = k at hk h4
  have : k = 0 ∨ k = 1 ∨ k = 2 ∨ k = 3 ∨ k = 4 ∨ k = 5 ∨ k = 6 := by omega
  rcases this with rfl | rfl | rfl | rfl | rfl | rfl | rfl <;> simp only [Nat.reducePow] at h4 <;> omega
theorem nodupT_le {α : Type} [DecidableEq α] : ∀ (l u : List α), l.Nodup → (∀ x ∈ l, x ∈ u) → l.length ≤ u.length
  | [], _, _, _ => Nat.zero_le _
  | x :: l, u, h, hs => by
    rw [List.nodup_cons] at h
    have := nodupT_le l (u.erase x) h.2 fun y hy => (List.mem_erase_of_ne (fun e => h.1 (by rw [← e]; exact hy))).2 (hs y (List.mem_cons_of_mem _ hy))
    have hx := hs x (List.mem_cons_self ..)
    have hl := List.length_erase_of_mem hx
    have hp := List.length_pos_of_mem hx
    rw [List.length_cons]
    omega
structure Cap (vars : List Int) : Prop where
  cap : ∀ l : List (List Fact), l.Nodup → PropL vars l → l.length ≤ 1024
  len : vars.length ≤ 12
  dom : ∀ n ∈ vars, n ≤ 64
theorem cap_of {v : List Int} (h2 : ∀ k ∈ v, 2 ≤ k ∧ k ≤ 4) (hl : v.length ≤ 12) (hp : prodN v ≤ 81) : Cap v := by
  refine ⟨fun l hn hpr => ?_, hl, fun n hn => by have := h2 n hn; omega⟩
  have := nodupT_le l (ptL 0 v) hn fun x hx => ptL_mem v 0 (List.drop_zero ..) x (-1) (by omega) (hpr x hx)
  rw [ptL_len] at this
  exact Nat.le_trans this (pt_small (fun k hk => (h2 k hk).1) hp)
theorem foldT_nodup : ∀ (l out : List (List Fact)), out.Nodup → (l.foldl addN out).Nodup
  | [], _, h => h
  | y :: r, _, h => foldT_nodup r _ (addN_nodup h y)
section
variable {vars : List Int} (hc : Cap vars)
include hc
theorem capT {l : List (List Fact)} (hn : l.Nodup) (hp : PropL vars l) : capO l = some l := if_pos (hc.cap l hn hp)
theorem quietT {f : Fact} : ∀ (es : List GEffect) (l : List (List Fact)), WhenP vars es → PropL vars l → ∃ j, quietG vars f es l = some j ∧ PropL vars j
  | [], l, _, h => ⟨l, rfl, h⟩
  | e :: r, l, hw, h => by
    have hwr : WhenP vars r := fun x hx => hw x (List.mem_cons_of_mem _ hx)
    rw [quietG]
    split
    · exact quietT r l hwr h
    · have he := hw e (List.mem_cons_self ..)
      have h1 : capO (silF vars e.When) = some (silF vars e.When) := if_pos (by
        have := silF_len hc.dom e.When
        have := propF_len' he
        have := hc.len
        omega)
      have hpj := joinLL_prop h (silF_prop he)
      rw [h1, Option.bind_some, capT hc (joinLL_nodup _ _) hpj, Option.bind_some]
      exact quietT r _ hwr hpj
theorem casesT {f : Fact} : ∀ (es : List GEffect), WhenP vars es → ∃ out, casesG vars f es = some out ∧ PropL vars out ∧ out.Nodup
  | [], _ => ⟨[], rfl, (fun x hx => by cases hx), List.nodup_nil⟩
  | e :: r, hw => by
    have hwr : WhenP vars r := fun x hx => hw x (List.mem_cons_of_mem _ hx)
    obtain ⟨out, h1, h2, h3⟩ := casesT (f := f) r hwr
    rw [casesG, h1, Option.bind_some]
    split
    · obtain ⟨j, j1, j2⟩ := quietT hc (f := f) r [e.When] hwr (fun x hx => by rw [List.mem_singleton.1 hx]; exact hw e (List.mem_cons_self ..))
      rw [j1, Option.map_some]
      exact ⟨_, rfl, fun x hx => by rcases (foldN_mem x j out).1 hx with h | h; exact h2 x h; exact j2 x h, foldT_nodup _ _ h3⟩
    · exact ⟨out, rfl, h2, h3⟩
theorem casesOT {o : GOp} {f : Fact} (hw : WhenP vars o.Effs) (hf : propF vars (-1) [f] = true) : ∃ c, casesO vars o f = some c ∧ PropL vars c := by
  have hw2 : WhenP vars (o.Effs.filter (fun e => e.Var == f.1)) := fun e he => hw e (List.mem_filter.1 he).1
  obtain ⟨out, h1, h2, h3⟩ := casesT hc (f := f) _ hw2
  obtain ⟨j, j1, j2⟩ := quietT hc (f := f) _ [[f]] hw2 (fun x hx => by rw [List.mem_singleton.1 hx]; exact hf)
  have hp : PropL vars (j.foldl addN out) := fun x hx => by rcases (foldN_mem x j out).1 hx with h | h; exact h2 x h; exact j2 x h
  rw [casesO, casesE, h1, Option.bind_some, j1, Option.map_some, Option.bind_some, capT hc (foldT_nodup _ _ h3) hp]
  exact ⟨_, rfl, hp⟩
theorem regGT {o : GOp} (hw : WhenP vars o.Effs) : ∀ (p : List Fact) (l : List (List Fact)), (∀ f ∈ p, propF vars (-1) [f] = true) → PropL vars l → ∃ j, regG vars o p l = some j
  | [], l, _, _ => ⟨l, rfl⟩
  | f :: r, l, hp, hl => by
    obtain ⟨c, h1, h2⟩ := casesOT hc hw (hp f (List.mem_cons_self ..))
    have hj := joinLL_prop hl h2
    rw [regG, h1, Option.bind_some, capT hc (joinLL_nodup _ _) hj, Option.bind_some]
    exact regGT hw r _ (fun x hx => hp x (List.mem_cons_of_mem _ hx)) hj
end
theorem regT {t : GTask} (hc : Cap t.Vars) (hgood : goodF t = true) {p : List Fact} (hp : propF t.Vars (-1) p = true) {o : GOp} (ho : o ∈ t.Ops) : ∃ l, regO t.Vars o p = some l ∧ PropL t.Vars l ∧ l.length ≤ 1024 := by
  have oo := good_op hgood ho
  obtain ⟨j, h1⟩ := regGT hc oo.when p [o.Pre] (fun f hf => propF_one hp hf) (fun x hx => by rw [List.mem_singleton.1 hx]; exact oo.pre)
  obtain ⟨l1, _, l3⟩ := pre_prop hgood hp ho h1
  rw [regO, h1, Option.map_some]
  refine ⟨_, rfl, fun z hz => l1 z (List.mem_filter.1 ((sortLL_mem z _).1 hz)).1, ?_⟩
  rw [sortLL_length]
  exact Nat.le_trans (List.length_filter_le _ _) l3
def fitF (t : GTask) : Bool := tameF t && (decide (t.Ops.length ≤ 10) && decide (manyF 81 t.Vars 1 ≤ 81))
structure Fit (t : GTask) : Prop where
  good : goodF t = true
  cap : Cap t.Vars
  ops : t.Ops.length ≤ 10
  small : smallF t = true
  prod : prodN t.Vars ≤ 81
  dom : ∀ k ∈ t.Vars, 2 ≤ k ∧ k ≤ 4
theorem fit_of {t : GTask} (h : fitF t = true) : Fit t := by
  unfold fitF at h
  rw [Bool.and_eq_true, Bool.and_eq_true, decide_eq_true_iff, decide_eq_true_iff] at h
  obtain ⟨h1, h2, h3⟩ := h
  have hs := tame_small h1
  obtain ⟨hg, hv, -⟩ := small_good hs
  unfold tameF at h1
  simp only [Bool.and_eq_true, List.all_eq_true, decide_eq_true_iff] at h1
  have hd := h1.2.1
  have hp : prodN t.Vars ≤ 81 := by
    have hm := manyF_prod 81 t.Vars 1 (fun k hk => by have := hd k hk; omega) (by decide) (by decide)
    rw [show ((81 : Nat) : Int) = 81 from rfl, show ((1 : Nat) : Int) = 1 from rfl, Nat.one_mul] at hm
    rw [hm] at h3
    split at h3 <;> omega
  exact ⟨hg, cap_of hd hv hp, h2, hs, hp, hd⟩
end Go.Proofs.YtohjegemooakpaaGreat.Am
namespace Go.Proofs.YtohjegemooakpaaGreat.Am
open Go.RowKit
def NF (e : Er) : Prop := e = .nil ∨ e = .no 10
theorem ask_nf (t : GTask) (c : GCertificate) (p : List Fact) (d r : Int) : (askC t c p d r).2.1 = .no 10 ∨ ((askC t c p d r).2.1 = .nil ∧ (askC t c p d r).1 = covB t c d p) := by
  unfold askC
  split
  · exact .inr ⟨rfl, rfl⟩
  · exact .inl rfl
theorem stepL_nf (t : GTask) (c : GCertificate) (d : Int) : ∀ (l : List (List Fact)) (r : Int), (∀ p ∈ l, covB t c d p = true) → NF (stepL t c d l r).1
  | [], r, _ => .inl rfl
  | p :: ps, r, h => by
    have ha := ask_nf t c p d r
    have hp := h p (List.mem_cons_self ..)
    rw [stepL]
    rcases hk : askC t c p d r with ⟨b, e, r'⟩
    rw [hk] at ha
    rcases ha with ha | ⟨ha, hb⟩
    · simp only at ha
      subst ha
      cases b <;> exact .inr rfl
    · simp only at ha hb
      subst ha
      rw [hp] at hb
      subst hb
      exact stepL_nf t c d ps r' (fun q hq => h q (List.mem_cons_of_mem _ hq))
section
variable {t : GTask} (hf : Fit t) {c : GCertificate} (hc : CertP t.Vars c) (ha : Acc t c)
include hf hc ha
theorem stepO_nf {n : Nogood} (hn : n ∈ c.Nogoods) {o : GOp} (ho : o ∈ t.Ops) (r : Int) : NF (stepO t c n o r).1 := by
  unfold stepO
  split
  · exact .inl rfl
  · rename_i hsk
    obtain ⟨l, l1, l2, -⟩ := regT hf.cap hf.good (hc.prop n hn) ho
    rw [l1]
    refine stepL_nf t c _ l r (fun p hp => (covB_true hf.good hc (l2 p hp) _).2 fun s hs hh => ?_)
    exact ha.step n hn o ho (Bool.eq_false_iff.2 hsk) s ((allF_mem t s).2 hs) ((inF_iff hf.good ho (stateF_st hs) (hc.prop n hn) l1).1 ⟨p, hp, hh⟩)
theorem opsC_nf {n : Nogood} (hn : n ∈ c.Nogoods) (i : Int) : ∀ (l : List GOp) (j r : Int), (∀ o ∈ l, o ∈ t.Ops) → (∃ r', opsC t c n i l j r = .inl r') ∨ ∃ x, opsC t c n i l j r = .inr x ∧ x.2.2 = .no 10
  | [], j, r, _ => .inl ⟨r, rfl⟩
  | o :: os, j, r, h => by
    have hs := stepO_nf hf hc ha hn (h o (List.mem_cons_self ..)) r
    rw [opsC]
    rcases hk : stepO t c n o r with ⟨e, r'⟩
    rw [hk] at hs
    rcases hs with hs | hs <;> (simp only at hs; subst hs)
    · exact opsC_nf hn i os (j + 1) r' (fun u hu => h u (List.mem_cons_of_mem _ hu))
    · exact .inr ⟨_, rfl, rfl⟩
theorem nogC_nf : ∀ (l : List Nogood) (i r : Int), (∀ n ∈ l, n ∈ c.Nogoods) → NF (nogC t c l i r).2.2
  | [], i, r, _ => .inl rfl
  | n :: ns, i, r, h => by
    rw [nogC]
    rcases opsC_nf hf hc ha (h n (List.mem_cons_self ..)) i t.Ops 0 r (fun _ h => h) with ⟨r', h1⟩ | ⟨x, h1, h2⟩
    · rw [h1]; exact nogC_nf ns (i + 1) r' (fun u hu => h u (List.mem_cons_of_mem _ hu))
    · rw [h1]; exact .inr h2
theorem acc_ver (steps : Int) : NF (verF t c steps) := by
  unfold verF whereF
  rw [(good_check t).1 hf.good]
  simp only
  rw [(properF_nil t.Vars c).2 hc]
  simp only
  unfold whereC
  have hi : ¬ (c.Nogoods.any fun n => holdsF t.Init n.1) = true := fun h => by
    obtain ⟨n, hn, h2⟩ := List.any_eq_true.1 h
    rw [ha.init n hn] at h2
    cases h2
  rw [if_neg hi]
  split
  · exact nogC_nf hf hc ha _ _ _ fun _ h => h
  · rename_i hb
    have hk := ask_nf t c t.Goal 0 (max 0 (min steps 1048576))
    have hg : covB t c 0 t.Goal = true := (covB_true hf.good hc (good_goal hf.good) 0).2 fun s hs hh => ha.goal hb s ((allF_mem t s).2 hs) hh
    rcases hk2 : askC t c t.Goal 0 (max 0 (min steps 1048576)) with ⟨b, e, r'⟩
    rw [hk2] at hk
    rcases hk with hk | ⟨hk, hb2⟩
    · simp only at hk; subst hk
      cases b <;> exact .inr rfl
    · simp only at hk hb2
      subst hk
      rw [hg] at hb2
      subst hb2
      exact nogC_nf hf hc ha _ _ _ fun _ h => h
end
end Go.Proofs.YtohjegemooakpaaGreat.Am
namespace Go.Proofs.YtohjegemooakpaaGreat.Am
open Go.RowKit
theorem st_state : ∀ {v s : List Int}, s.length = v.length → (∀ i : Nat, i < v.length → 0 ≤ s.getD i 0 ∧ s.getD i 0 < v.getD i 0) → stateF v s = true
  | [], [], _, _ => rfl
  | [], _ :: _, h, _ => by simp at h
  | _ :: _, [], h, _ => by simp at h
  | k :: r, x :: s, h, hr => by
    have h0 := hr 0 (by simp)
    simp only [List.getD_cons_zero] at h0
    rw [stateF, Bool.and_eq_true, decide_eq_true_iff]
    refine ⟨h0, st_state (by simpa using h) (fun i hi => ?_)⟩
    have := hr (i + 1) (by simpa using hi)
    simpa using this
theorem apply_rng (vars : List Int) (s : List Int) : ∀ (r : List GEffect) (v : List Int), v.length = vars.length → (∀ i : Nat, i < vars.length → 0 ≤ v.getD i 0 ∧ v.getD i 0 < vars.getD i 0) → (∀ e ∈ r, 0 ≤ e.Var ∧ 0 ≤ e.Val ∧ e.Val < vars.getD e.Var.toNat 0) → ∀ i : Nat, i < vars.length → 0 ≤ (applyG s r v).getD i 0 ∧ (applyG s r v).getD i 0 < vars.getD i 0
  | [], v, _, hv, _, i, hi => hv i hi
  | e :: r, v, hl, hv, he, i, hi => by
    have he2 : ∀ e ∈ r, 0 ≤ e.Var ∧ 0 ≤ e.Val ∧ e.Val < vars.getD e.Var.toNat 0 := fun u hu => he u (List.mem_cons_of_mem _ hu)
    rw [applyG]
    split
    · obtain ⟨e0, e1, e2⟩ := he e (List.mem_cons_self ..)
      refine apply_rng vars s r _ (by rw [List.length_set]; exact hl) (fun j hj => ?_) he2 i hi
      by_cases hej : e.Var.toNat = j
      · subst hej
        rw [List.getD_eq_getElem?_getD, List.getElem?_set_self (by omega), Option.getD_some]
        exact ⟨e1, e2⟩
      · rw [List.getD_eq_getElem?_getD, List.getElem?_set_ne hej, ← List.getD_eq_getElem?_getD]
        exact hv j hj
    · exact apply_rng vars s r v hl hv he2 i hi
theorem next_state {t : GTask} (hgood : goodF t = true) {s : List Int} (hs : stateF t.Vars s = true) {o : GOp} (ho : o ∈ t.Ops) : stateF t.Vars (nextF s o) = true := by
  have st := stateF_st hs
  refine st_state (by unfold nextF; rw [applyG_len]; exact st.len) (fun i hi => ?_)
  exact apply_rng t.Vars s o.Effs s st.len st.rng (fun e he => by obtain ⟨h1, -, h3, h4⟩ := good_eff hgood ho he; exact ⟨h1, h3, h4⟩) i hi
end Go.Proofs.YtohjegemooakpaaGreat.Am
namespace Go.Proofs.YtohjegemooakpaaGreat.Am
open Go.RowKit
def leE (a b : GEntry) : Prop := a.dist < b.dist ∨ (a.dist = b.dist ∧ a.order ≤ b.order)
theorem leE_trans {a b c : GEntry} (h1 : leE a b) (h2 : leE b c) : leE a c := by unfold leE at *; omega
def Le2 (l : List GEntry) (i j : Nat) : Prop := ∀ a b, l[i]? = some a → l[j]? = some b → leE a b
theorem Le2.trans {l : List GEntry} {i j k : Nat} (h1 : Le2 l i j) (h2 : Le2 l j k) (hj : j < l.length) : Le2 l i k := fun a c ha hc => leE_trans (h1 a _ ha (List.getElem?_eq_getElem hj)) (h2 _ c (List.getElem?_eq_getElem hj) hc)
def Heap (l : List GEntry) (n : Nat) : Prop := ∀ i, 0 < i → i < n → Le2 l ((i - 1) / 2) i
end Go.Proofs.YtohjegemooakpaaGreat.Am
namespace Go.Proofs.YtohjegemooakpaaGreat.Am
open Go.RowKit
theorem subF_refl (a : List Fact) : subF a a = true := subF_iff.2 fun _ h => h
def wc (b : Int) (o : GOp) : Int := if b < 0 then 0 else o.Cost
inductive Rch (t : GTask) (b : Int) : List Int → Int → Prop
  | goal {s : List Int} : holdsF s t.Goal = true → Rch t b s 0
  | step {s : List Int} {o : GOp} {d : Int} : o ∈ t.Ops → holdsF s o.Pre = true → Rch t b (nextF s o) d → Rch t b s (d + wc b o)
structure EnP (t : GTask) (b : Int) (p : List Fact) (d : Int) : Prop where
  prop : propF t.Vars (-1) p = true
  d0 : 0 ≤ d
  d1 : 0 ≤ b → d < b
  d2 : b < 0 → d = 0
  snd : ∀ s, stateF t.Vars s = true → holdsF s p = true → Rch t b s d
def Covd (ns : List Nogood) (p : List Fact) (d : Int) : Prop := ∃ n ∈ ns, n.2 ≤ d ∧ subF n.1 p = true
def Back (t : GTask) (b : Int) (o : GOp) (d d' : Int) : Prop := o ∈ t.Ops ∧ (b < 0 ∨ d + o.Cost < b) ∧ d' = (if b < 0 then 0 else d + o.Cost)
def Need (t : GTask) (b : Int) (ns : List Nogood) (p : List Fact) (d : Int) : Prop :=
  (p = t.Goal ∧ d = 0) ∨ ∃ n ∈ ns, ∃ o, Back t b o n.2 d ∧ ∃ l, regO t.Vars o n.1 = some l ∧ p ∈ l
structure Inv (t : GTask) (b : Int) (q : List GEntry) (ns : List Nogood) : Prop where
  heap : Heap q q.length
  qP : ∀ e ∈ q, EnP t b e.facts e.dist
  nP : ∀ n ∈ ns, EnP t b n.1 n.2
  nI : ∀ n ∈ ns, holdsF t.Init n.1 = false
  sep : ns.Pairwise fun x y => x.2 ≤ y.2 ∧ subF x.1 y.1 = false
  below : ∀ n ∈ ns, ∀ e ∈ q, n.2 ≤ e.dist
  need : ∀ p d, Need t b ns p d → Covd ns p d ∨ ∃ e ∈ q, e.facts = p ∧ e.dist = d
  qlen : q.length ≤ 1 + ns.length * 10240
theorem Inv.len {t : GTask} (hf : Fit t) {b : Int} {q : List GEntry} {ns : List Nogood} (h : Inv t b q ns) : ns.length ≤ 1024 := by
  have hn : (ns.map (·.1)).Nodup := List.pairwise_map.2 (h.sep.imp fun {x y} hxy e => by
    have := hxy.2
    rw [e, subF_refl] at this
    cases this)
  have := hf.cap.cap _ hn fun x hx => by
    obtain ⟨n, hn, rfl⟩ := List.mem_map.1 hx
    exact (h.nP n hn).prop
  rw [List.length_map] at this
  exact this
structure Pushed (d : Int) (r : List (List Fact)) (q q' : List GEntry) : Prop where
  heap : Heap q' q'.length
  len : q'.length = q.length + r.length
  old : ∀ x ∈ q, x ∈ q'
  new : ∀ x ∈ q', x ∈ q ∨ (x.facts ∈ r ∧ x.dist = d)
  all : ∀ p ∈ r, ∃ x ∈ q', x.facts = p ∧ x.dist = d
structure PushO (t : GTask) (b : Int) (p : List Fact) (d : Int) (r : List GOp) (q q' : List GEntry) : Prop where
  heap : Heap q' q'.length
  len : q'.length ≤ q.length + r.length * 1024
  old : ∀ x ∈ q, x ∈ q'
  new : ∀ x ∈ q', x ∈ q ∨ ∃ o ∈ r, Back t b o d x.dist ∧ ∃ l, regO t.Vars o p = some l ∧ x.facts ∈ l
  all : ∀ o ∈ r, ∀ d', Back t b o d d' → ∀ l, regO t.Vars o p = some l → ∀ z ∈ l, ∃ x ∈ q', x.facts = z ∧ x.dist = d'
end Go.Proofs.YtohjegemooakpaaGreat.Am
namespace Go.Proofs.YtohjegemooakpaaGreat.Am
open Go.RowKit
def M_l32_fit (a0 : GTask) : Option (Bool) :=
  ob1 (M_b_Tame a0) (fun z1 =>
   sel z1
    (sel (decide (((a0.Ops.map cGOp).length : Int) ≤ 10))
      (ob1 (M_b_Many a0.Vars 81) (fun z2 =>
        some (decide (z2 ≤ 81))))
      (some false))
    (some false))
set_option maxHeartbeats 16000000 in
set_option maxRecDepth 100000 in
theorem A_l32_fit (a0 : GTask) {r1 : Bool} (h : M_l32_fit a0 = some r1) : ACall cx 11 [.agg [.sl 1 (a0.Vars.map cI), .sl 1 (a0.Init.map cI), .sl 2 (a0.Goal.map cF), .sl 4 (a0.Ops.map cGOp)]] (.c (.bool r1)) := by
  refine aOf Tryz.func11 rfl (by decide) rfl (Nat.le_of_ble_eq_true rfl) ?_; intro _; unfold M_l32_fit at h; refine aSR ?_; intro _; refine dr ?_; refine aSR ?_; intro _; obtain ⟨z1, u1, h⟩ := ob1_ok h; refine cl rfl (A_b_Tame a0 u1) ?_; intro _; refine spl h (fun c2 h => ?_) (fun c2 h => ?_)
  · intro _; refine spl h (fun c3 h => ?_) (fun c3 h => ?_)
    · intro _; obtain ⟨z2, u4, h⟩ := ob1_ok h; refine cl rfl (A_b_Many a0.Vars 81 u4) ?_; intro _; refine dr ?_; refine aRt ?_; intro _; obtain rfl := inj1 h; exact ca_0
    · intro _; refine dr ?_; refine aRt ?_; intro _; obtain rfl := inj1 h; exact ca_0
  · intro _; refine dr ?_; refine aRt ?_; intro _; obtain rfl := inj1 h; exact ca_0
def M_b_Clip (a0 : Int) (a1 : Int) (a2 : Int) : Option (Int) :=
  some (max a1 (min a0 a2))
set_option maxHeartbeats 16000000 in
set_option maxRecDepth 100000 in
theorem A_b_Clip (a0 : Int) (a1 : Int) (a2 : Int) {r1 : Int} (h : M_b_Clip a0 a1 a2 = some r1) : ACall cx 17 [.c (.int .i64 a0), .c (.int .i64 a1), .c (.int .i64 a2)] (.c (.int .i64 r1)) := by
  refine aOf Tryz.func17 rfl (by decide) rfl (Nat.le_of_ble_eq_true rfl) ?_; intro _; unfold M_b_Clip at h; refine aSR ?_; intro _; refine dr ?_; refine aSR ?_; intro _; refine ⟨_, lf_min rfl (Nat.le_of_ble_eq_true rfl) rfl rfl, ?_⟩; intro _; refine ⟨_, lf_max rfl (Nat.le_of_ble_eq_true rfl) rfl rfl, ?_⟩; intro _; refine dr ?_; refine aRt ?_; intro _; obtain rfl := inj1 h; exact ca_0
end Go.Proofs.YtohjegemooakpaaGreat.Am
namespace Go.Proofs.YtohjegemooakpaaGreat.Am
end Go.Proofs.YtohjegemooakpaaGreat.Am
namespace Go.Proofs.YtohjegemooakpaaGreat.Am
open Go.RowKit
theorem fit_eq (t : GTask) (ht : ShT t) : M_l32_fit t = some (fitF t) := by
  rw [M_l32_fit, tame_eq t ht, ob1_some, fitF]
  cases tameF t with
  | false => rfl
  | true =>
    rw [sel_tt, sel_dec, List.length_map, Bool.true_and]
    by_cases h : t.Ops.length ≤ 10
    · rw [if_pos (by omega), many_eq _ ht.vars 81 (by omega), ob1_some, decide_eq_true h, Bool.true_and]
    · rw [if_neg (by omega), decide_eq_false h, Bool.false_and]
theorem prop_frm {vars : List Int} (hl : vars.length ≤ 64) (hd : ∀ n ∈ vars, n ≤ 64) : ∀ {p : List Fact} {last : Int}, propF vars last p = true → limF p = true
  | [], _, _ => rfl
  | y :: r, last, h => by
    rw [propF, Bool.and_eq_true, decide_eq_true_iff] at h
    rw [limF, List.all_cons, Bool.and_eq_true, decide_eq_true_iff]
    have hi := prop_frm hl hd h.2
    refine ⟨⟨by omega, ?_⟩, hi⟩
    have hlt : y.1.toNat < vars.length := by
      refine Nat.lt_of_not_le fun hge => ?_
      have : vars.getD y.1.toNat 0 = 0 := by rw [List.getD_eq_getElem?_getD, List.getElem?_eq_none hge]; rfl
      omega
    have hm : vars.getD y.1.toNat 0 ∈ vars := by
      rw [List.getD_eq_getElem?_getD, List.getElem?_eq_getElem hlt]
      exact List.getElem_mem hlt
    have := hd _ hm
    omega
end Go.Proofs.YtohjegemooakpaaGreat.Am
namespace Go.Proofs.YtohjegemooakpaaGreat.Am
open Go.RowKit
def M_b_Rank_L1 (a0 : List Int) (a1 : List Int) : Nat → Int → Int → Option (Int)
  | 0, _, _ => none
  | k9 + 1, v7, v8 =>
    sel (decide (v8 < ((a1.map cI).length : Int)))
     (ix a0 v8 (fun y10 =>
       ix a1 v8 (fun y11 =>
        M_b_Rank_L1 a0 a1 k9 (IntKind.i64.wrap ((IntKind.i64.wrap (v7 * y10)) + y11)) (IntKind.i64.wrap (v8 + 1)))))
     (some v7)
def M_b_Rank (a0 : List Int) (a1 : List Int) : Option (Int) :=
  M_b_Rank_L1 a0 a1 ((((a1.map cI).length : Int)).toNat + 1) 0 0
set_option maxHeartbeats 16000000 in
set_option maxRecDepth 100000 in
theorem A_b_Rank (a0 : List Int) (a1 : List Int) {r1 : Int} (h : M_b_Rank a0 a1 = some r1) : ACall cx 55 [.sl 1 (a0.map cI), .sl 1 (a1.map cI)] (.c (.int .i64 r1)) := by
  refine aOf Tryz.func55 rfl (by decide) rfl (Nat.le_of_ble_eq_true rfl) ?_; intro _; unfold M_b_Rank at h; refine aSR ?_; intro _; refine dr ?_; refine aSR ?_; intro _; refine dr ?_; refine aSq ?_; refine aSR ?_; intro _; refine dr ?_; refine aBk ?_; refine awp_loop (α := Nat × Int × Int) (fun x => mkS 25 [(0, .sl 1 (a0.map cI)), (1, .sl 1 (a1.map cI)), (5, .c (.int .i64 x.2.1)), (8, .c (.int .i64 ((a1.map cI).length : Int))), (9, .c (.int .i64 x.2.2))] []) (fun x => M_b_Rank_L1 a0 a1 x.1 x.2.1 x.2.2 = some r1) (fun x => x.1) ((((a1.map cI).length : Int)).toNat + 1, 0, 0) h ?_ ?_
  · exact ca_0
  · intro x1 h; intro _; obtain ⟨k9, m2, h⟩ := succ_of (f := fun n => M_b_Rank_L1 a0 a1 n x1.2.1 x1.2.2) rfl h; replace h : M_b_Rank_L1 a0 a1 (k9 + 1) x1.2.1 x1.2.2 = some r1 := h; rw [M_b_Rank_L1] at h; refine aSR ?_; intro _; refine dr ?_; refine aSq ?_; refine aCd ?_; intro _; refine spl h (fun c3 h => ?_) (fun c3 h => ?_)
    · refine aSk ?_; refine aSq ?_; refine aBk ?_; refine aSR ?_; intro _; refine dr ?_; refine aRg ?_; intro _; obtain ⟨y10, w4, q5, h⟩ := ix_ok h; refine Exists.intro (cI y10) (And.intro (map_at' w4) ?_); intro _; obtain ⟨y11, w6, q7, h⟩ := ix_ok h; refine Exists.intro (cI y11) (And.intro (map_at' w6) ?_); intro _; refine pr ?_; refine pr ?_; refine dr ?_; refine aRg ?_; intro _; refine dr ?_; refine ⟨(k9, (IntKind.i64.wrap ((IntKind.i64.wrap (x1.2.1 * y10)) + y11)), (IntKind.i64.wrap (x1.2.2 + 1))), h, ltS m2, ?_⟩; exact ca_0
    · refine aEx ?_; refine aSR ?_; intro _; refine dr ?_; refine aRt ?_; intro _; obtain rfl := inj1 h; exact ca_0
def M_b_Edges_L1 (a0 : GTask) (v68 : Int) (y88 : List Int) : Nat → Int → (List GEdge) → Option (List GEdge)
  | 0, _, _ => none
  | k99 + 1, v97, v98 =>
    sel (decide (v97 < ((a0.Ops.map cGOp).length : Int)))
     (ob2 (M_b_Apply a0 y88 v97) (fun z100 z101 =>
       sel z101
        (ob1 (M_b_Rank a0.Vars z100) (fun z102 =>
          grd ((v98.length + 1) * 24 ≤ 140737488355328) (M_b_Edges_L1 a0 v68 y88 k99 (IntKind.i64.wrap (v97 + 1)) (v98 ++ [{ From := v68, Op := v97, To := z102 : GEdge }]))))
        (M_b_Edges_L1 a0 v68 y88 k99 (IntKind.i64.wrap (v97 + 1)) v98)))
     (some v98)
def M_b_Edges_L2 (a0 : GTask) (z1 : List (List Int)) : Nat → Int → (List GEdge) → Option (List GEdge)
  | 0, _, _ => none
  | k70 + 1, v68, v69 =>
    sel (decide (v68 < ((z1.map cL_cI).length : Int)))
     (ob1 (ix z1 v68 (fun y88 =>
        M_b_Edges_L1 a0 v68 y88 ((((a0.Ops.map cGOp).length : Int)).toNat + 1) 0 v69) : Option (List GEdge))
       (fun v86 => M_b_Edges_L2 a0 z1 k70 (IntKind.i64.wrap (v68 + 1)) v86))
     (grd (v69.length ≤ 140737488355328) (some v69))
def M_b_Edges (a0 : GTask) : Option (List GEdge) :=
  ob1 (M_b_States a0.Vars) (fun z1 =>
   M_b_Edges_L2 a0 z1 ((((z1.map cL_cI).length : Int)).toNat + 1) 0 [])
set_option maxHeartbeats 16000000 in
set_option maxRecDepth 100000 in
theorem A_b_Edges (a0 : GTask) {r1 : List GEdge} (h : M_b_Edges a0 = some r1) : ACall cx 46 [.agg [.sl 1 (a0.Vars.map cI), .sl 1 (a0.Init.map cI), .sl 2 (a0.Goal.map cF), .sl 4 (a0.Ops.map cGOp)]] (.sl 3 (r1.map cGEdge)) := by
  refine aOf Tryz.func46 rfl (by decide) rfl (Nat.le_of_ble_eq_true rfl) ?_; intro _; unfold M_b_Edges at h; refine aSR ?_; intro _; refine dr ?_; refine aSR ?_; intro _; refine dr ?_; refine aSq ?_; refine aSR ?_; intro _; obtain ⟨z1, u1, h⟩ := ob1_ok h; refine cl rfl (A_b_States a0.Vars u1) ?_; intro _; refine dr ?_; refine aBk ?_; refine awp_loop (α := Nat × Int × (List GEdge)) (fun x => mkS 45 [(1, .ptr 1 0 0 0), (3, .own 41 0 0 x.2.2.length), (11, .sl 1 (z1.map cL_cI)), (12, .c (.int .i64 ((z1.map cL_cI).length : Int))), (13, .c (.int .i64 x.2.1))] [(1, ⟨26, 4, true, [[.sl 1 (a0.Vars.map cI), .sl 1 (a0.Init.map cI), .sl 2 (a0.Goal.map cF), .sl 4 (a0.Ops.map cGOp)]]⟩), (41, ⟨93, 3, false, x.2.2.map cGEdge⟩)]) (fun x => M_b_Edges_L2 a0 z1 x.1 x.2.1 x.2.2 = some r1) (fun x => x.1) ((((z1.map cL_cI).length : Int)).toNat + 1, 0, []) h ?_ ?_
  · exact ca_0
  · intro x2 h; intro _; obtain ⟨k70, m3, h⟩ := succ_of (f := fun n => M_b_Edges_L2 a0 z1 n x2.2.1 x2.2.2) rfl h; replace h : M_b_Edges_L2 a0 z1 (k70 + 1) x2.2.1 x2.2.2 = some r1 := h; rw [M_b_Edges_L2] at h; refine aSR ?_; intro _; refine dr ?_; refine aSq ?_; refine aCd ?_; intro _; refine spl h (fun c4 h => ?_) (fun c4 h => ?_)
    · refine aSk ?_; obtain ⟨o5, h, hK6⟩ := ob1_ok h; refine awp_cut (α := List GEdge) (fun v86 => mkS 45 [(1, .ptr 1 0 0 0), (3, .own 41 0 0 v86.length), (11, .sl 1 (z1.map cL_cI)), (12, .c (.int .i64 ((z1.map cL_cI).length : Int))), (13, .c (.int .i64 x2.2.1))] [(1, ⟨26, 4, true, [[.sl 1 (a0.Vars.map cI), .sl 1 (a0.Init.map cI), .sl 2 (a0.Goal.map cF), .sl 4 (a0.Ops.map cGOp)]]⟩), (41, ⟨93, 3, false, v86.map cGEdge⟩)]) (fun v => o5 = v) ?_ ?_
      · refine aBk ?_; refine aSR ?_; intro _; obtain ⟨y88, w7, q8, h⟩ := ix_ok h; refine Exists.intro (cL_cI y88) (And.intro (map_at' w7) ?_); intro _; refine pr ?_; refine dr ?_; refine aSR ?_; intro _; refine dr ?_; refine aBk ?_; refine awp_loop (α := Nat × Int × (List GEdge)) (fun x => mkS 45 [(1, .ptr 1 0 0 0), (3, .own 41 0 0 x.2.2.length), (4, .c (.int .i64 x2.2.1)), (5, .sl 1 (y88.map cI)), (11, .sl 1 (z1.map cL_cI)), (12, .c (.int .i64 ((z1.map cL_cI).length : Int))), (13, .c (.int .i64 x2.2.1)), (20, .c (.int .i64 ((a0.Ops.map cGOp).length : Int))), (21, .c (.int .i64 x.2.1))] [(1, ⟨26, 4, true, [[.sl 1 (a0.Vars.map cI), .sl 1 (a0.Init.map cI), .sl 2 (a0.Goal.map cF), .sl 4 (a0.Ops.map cGOp)]]⟩), (41, ⟨93, 3, false, x.2.2.map cGEdge⟩)]) (fun x => M_b_Edges_L1 a0 x2.2.1 y88 x.1 x.2.1 x.2.2 = some o5) (fun x => x.1) ((((a0.Ops.map cGOp).length : Int)).toNat + 1, 0, x2.2.2) h ?_ ?_
        · exact ca_0
        · intro x9 h; intro _; obtain ⟨k99, m10, h⟩ := succ_of (f := fun n => M_b_Edges_L1 a0 x2.2.1 y88 n x9.2.1 x9.2.2) rfl h; replace h : M_b_Edges_L1 a0 x2.2.1 y88 (k99 + 1) x9.2.1 x9.2.2 = some o5 := h; rw [M_b_Edges_L1] at h; refine aSR ?_; intro _; refine dr ?_; refine aSq ?_; refine aCd ?_; intro _; refine spl h (fun c11 h => ?_) (fun c11 h => ?_)
          · refine aSk ?_; refine aSq ?_; refine aBk ?_; refine aSR ?_; intro _; refine dr ?_; refine aSR ?_; intro _; obtain ⟨z100, z101, u12, h⟩ := ob2_ok h; refine cl rfl (A_b_Apply a0 y88 x9.2.1 u12) ?_; intro _; refine dr ?_; refine aSR ?_; intro _; refine dr ?_; refine aCd ?_; intro _; refine spl h (fun c13 h => ?_) (fun c13 h => ?_)
            · refine aRg ?_; intro _; obtain ⟨z102, u14, h⟩ := ob1_ok h; refine cl rfl (A_b_Rank a0.Vars z100 u14) ?_; intro _; obtain ⟨q15, h⟩ := grd_ok h; refine pl ?_; refine pl ?_; refine And.intro (by first | with_reducible assumption | (show (x9.2.2.length + 1) * 24 ≤ 140737488355328; with_reducible assumption) | omega | (simp; omega)) ?_; refine pe ?_; refine dr ?_; refine aRg ?_; intro _; refine dr ?_; refine ⟨(k99, (IntKind.i64.wrap (x9.2.1 + 1)), (x9.2.2 ++ [{ From := x2.2.1, Op := x9.2.1, To := z102 : GEdge }])), h, ltS m10, ?_⟩; exact ca_0
            · refine aSk ?_; refine aRg ?_; intro _; refine dr ?_; refine ⟨(k99, (IntKind.i64.wrap (x9.2.1 + 1)), x9.2.2), h, ltS m10, ?_⟩; exact ca_0
          · refine aEx ?_; refine ⟨x9.2.2, (Option.some.inj h).symm, ?_⟩; exact ca_0
      · rintro v86 ho; have ho := ho.symm; subst ho; intro _; replace h := hK6; refine aRg ?_; intro _; refine dr ?_; refine ⟨(k70, (IntKind.i64.wrap (x2.2.1 + 1)), v86), h, ltS m3, ?_⟩; exact ca_0
    · refine aEx ?_; refine aSR ?_; intro _; refine dr ?_; refine aRt ?_; obtain ⟨q16, h⟩ := grd_ok h; intro _; obtain rfl := inj1 h; exact ca_0
end Go.Proofs.YtohjegemooakpaaGreat.Am
namespace Go.Proofs.YtohjegemooakpaaGreat.Am
def M_b_Rank_L1_B (a0 : List Int) (_ : List Int) (_y11 : Int) (v8 : Int) : ((Int)) → (((Int)) → Option (Int)) → Option (Int) := fun v7 rc => ix a0 v8 (fun y10 =>
       ixv _y11 (fun y11 =>
        rc ((IntKind.i64.wrap ((IntKind.i64.wrap (v7 * y10)) + y11)))))
def M_b_Rank_L1_E (_ : List Int) (_ : List Int) : ((Int)) → Option (Int) := fun v7 => some v7
theorem M_b_Rank_L1_eq (a0 : List Int) (a1 : List Int) (v7 : Int) (hl : a1.length < 9223372036854775807) : M_b_Rank_L1 a0 a1 (((a1.map cI).length : Int).toNat + 1) v7 0 = Rg (M_b_Rank_L1_B a0 a1) (M_b_Rank_L1_E a0 a1) a1 0 v7 := rg_e2 (L := fun k i v7 => M_b_Rank_L1 a0 a1 k v7 i) hl (fun k n p y hy h1 h2 => by first | (simp only [M_b_Rank_L1, M_b_Rank_L1_B, List.length_map, decide_lt h1, sel, ix_at hy, ixv, h2]; done) | (simp only [List.length_map] at h1 hy; (simp only [M_b_Rank_L1, M_b_Rank_L1_B, List.length_map, decide_lt h1, sel, ix_at hy, ixv, h2]; done))) (fun k p => by simp only [M_b_Rank_L1, M_b_Rank_L1_E, List.length_map, decide_ge, sel]) v7
def M_b_Edges_L1_B (a0 : GTask) (v68 : Int) (y88 : List Int) (v97 : Int) : ((List GEdge)) → (((List GEdge)) → Option (List GEdge)) → Option (List GEdge) := fun v98 rc => ob2 (M_b_Apply a0 y88 v97) (fun z100 z101 =>
       sel z101
        (ob1 (M_b_Rank a0.Vars z100) (fun z102 =>
          grd ((v98.length + 1) * 24 ≤ 140737488355328) (rc ((v98 ++ [{ From := v68, Op := v97, To := z102 : GEdge }])))))
        (rc (v98)))
def M_b_Edges_L1_E (_ : GTask) (_ : Int) (_ : List Int) : ((List GEdge)) → Option (List GEdge) := fun v98 => some v98
theorem M_b_Edges_L1_eq (a0 : GTask) (v68 : Int) (y88 : List Int) (v98 : List GEdge) {m : Nat} (hm : ((a0.Ops.map cGOp).length : Int) = (m : Int)) (hl : m < 9223372036854775807) : M_b_Edges_L1 a0 v68 y88 ((((a0.Ops.map cGOp).length : Int)).toNat + 1) 0 v98 = Rn (M_b_Edges_L1_B a0 v68 y88) (M_b_Edges_L1_E a0 v68 y88) m 0 v98 := rn_e (L := fun k i v98 => M_b_Edges_L1 a0 v68 y88 k i v98) hm hl (fun _ _ _ => rfl) v98
def M_b_Edges_L2_B (a0 : GTask) (_ : List (List Int)) (_y88 : List Int) (v68 : Int) : ((List GEdge)) → (((List GEdge)) → Option (List GEdge)) → Option (List GEdge) := fun v69 rc => ob1 (ixv _y88 (fun y88 =>
        M_b_Edges_L1 a0 v68 y88 ((((a0.Ops.map cGOp).length : Int)).toNat + 1) 0 v69) : Option (List GEdge))
       (fun v86 => rc (v86))
def M_b_Edges_L2_E (_ : GTask) (_ : List (List Int)) : ((List GEdge)) → Option (List GEdge) := fun v69 => grd (v69.length ≤ 140737488355328) (some v69)
theorem M_b_Edges_L2_eq (a0 : GTask) (z1 : List (List Int)) (v69 : List GEdge) (hl : z1.length < 9223372036854775807) : M_b_Edges_L2 a0 z1 (((z1.map cL_cI).length : Int).toNat + 1) 0 v69 = Rg (M_b_Edges_L2_B a0 z1) (M_b_Edges_L2_E a0 z1) z1 0 v69 := rg_e2 (L := fun k i v69 => M_b_Edges_L2 a0 z1 k i v69) hl (fun k n p y hy h1 h2 => by first | (simp only [M_b_Edges_L2, M_b_Edges_L2_B, List.length_map, decide_lt h1, sel, ix_at hy, ixv, h2]; done) | (simp only [List.length_map] at h1 hy; (simp only [M_b_Edges_L2, M_b_Edges_L2_B, List.length_map, decide_lt h1, sel, ix_at hy, ixv, h2]; done))) (fun k p => by simp only [M_b_Edges_L2, M_b_Edges_L2_E, List.length_map, decide_ge, sel]) v69
end Go.Proofs.YtohjegemooakpaaGreat.Am
namespace Go.Proofs.YtohjegemooakpaaGreat.Am
open Go.RowKit
def rankF : List Int → List Int → Int → Int
  | k :: r, x :: t, v => rankF r t (v * k + x)
  | _, _, v => v
theorem flat_at (m : Nat) : ∀ (out : List (List Int)) (i x : Nat) (s : List Int), out[i]? = some s → x < m → (out.flatMap fun s => extF s m 0)[i * m + x]? = some (s ++ [(x : Int)])
  | [], i, x, s, h, _ => by simp at h
  | u :: out, i, x, s, h, hx => by
    have hext : ∀ (u : List Int) (m : Nat) (j : Int) (x : Nat), x < m → (extF u m j)[x]? = some (u ++ [j + (x : Int)]) := by
      intro u m
      induction m with
      | zero => intro j x hx; omega
      | succ m ih =>
        intro j x hx
        rw [extF]
        cases x with
        | zero => simp
        | succ x => rw [List.getElem?_cons_succ, ih (j + 1) x (by omega)]; congr 3; omega
    rw [List.flatMap_cons]
    cases i with
    | zero =>
      simp only [List.getElem?_cons_zero, Option.some.injEq] at h
      subst h
      rw [Nat.zero_mul, Nat.zero_add, List.getElem?_append_left (by rw [extF_len]; exact hx), hext u m 0 x hx]
      congr 3; omega
    | succ i =>
      rw [List.getElem?_cons_succ] at h
      rw [List.getElem?_append_right (by rw [extF_len, Nat.add_mul]; omega), extF_len, show (i + 1) * m + x - m = i * m + x from by rw [Nat.add_mul]; omega]
      exact flat_at m out i x s h hx
theorem rank_at : ∀ (r : List Int) (out : List (List Int)) (i : Nat) (s u : List Int), out[i]? = some s → stateF r u = true → ∃ k : Nat, rankF r u i = (k : Int) ∧ (statesG r out)[k]? = some (s ++ u)
  | [], out, i, s, u, h, hu => by
    cases u with
    | nil => exact ⟨i, rfl, by rw [statesG, List.append_nil]; exact h⟩
    | cons x u => simp [stateF] at hu
  | k :: r, out, i, s, u, h, hu => by
    cases u with
    | nil => simp [stateF] at hu
    | cons x u =>
      rw [stateF, Bool.and_eq_true, decide_eq_true_iff] at hu
      obtain ⟨m, rfl⟩ : ∃ m : Nat, k = m := ⟨k.toNat, by omega⟩
      obtain ⟨y, rfl⟩ : ∃ y : Nat, x = y := ⟨x.toNat, by omega⟩
      have h1 := flat_at m out i y s h (by omega)
      obtain ⟨q, e1, e2⟩ := rank_at r _ (i * m + y) (s ++ [(y : Int)]) u h1 hu.2
      refine ⟨q, ?_, by rw [statesG, Int.toNat_natCast, e2, List.append_assoc]; rfl⟩
      rw [rankF, ← e1, Int.natCast_add, Int.natCast_mul]
theorem rank_all {t : GTask} {s : List Int} (hs : stateF t.Vars s = true) : ∃ k : Nat, rankF t.Vars s 0 = (k : Int) ∧ (allF t)[k]? = some s := rank_at t.Vars [[]] 0 [] s rfl hs
theorem rank_loop (vars s : List Int) (B : Int) (hB : B ≤ 1000000) : ∀ (u r : List Int) (n : Nat) (v : Int), s.drop n = u → vars.drop n = r → u.length = r.length → 0 ≤ v → stateF r u = true → (∀ k ∈ r, 1 ≤ k ∧ k ≤ 64) → rankF r u v ≤ B →
    Rg (M_b_Rank_L1_B vars s) (M_b_Rank_L1_E vars s) u n v = some (rankF r u v)
  | [], r, n, v, hs, hr, hl, hv, hst, _, _ => by
    cases r with
    | nil => rfl
    | cons k r => simp at hl
  | x :: u, r, n, v, hs, hr, hl, hv, hst, hk, hb => by
    cases r with
    | nil => simp at hl
    | cons k r =>
      obtain ⟨hx, hs2, -⟩ := drop_cons hs
      obtain ⟨hk1, hr2, -⟩ := drop_cons hr
      rw [stateF, Bool.and_eq_true, decide_eq_true_iff] at hst
      obtain ⟨k1, k2⟩ := hk k (List.mem_cons_self ..)
      rw [rankF] at hb ⊢
      have hmono : ∀ (r u : List Int) (v : Int), stateF r u = true → 0 ≤ v → (∀ k ∈ r, 1 ≤ k ∧ k ≤ 64) → v ≤ rankF r u v := by
        intro r
        induction r with
        | nil => intro u v _ _ _; cases u <;> exact Int.le_refl _
        | cons k r ih =>
          intro u v hu hv hk
          cases u with
          | nil => simp [stateF] at hu
          | cons x u =>
            rw [stateF, Bool.and_eq_true, decide_eq_true_iff] at hu
            have hk1 := hk k (List.mem_cons_self ..)
            have hm : v * 1 ≤ v * k := Int.mul_le_mul_of_nonneg_left hk1.1 hv
            have h2 := ih u (v * k + x) hu.2 (by omega) (fun y hy => hk y (List.mem_cons_of_mem _ hy))
            rw [rankF]; omega
      have hvk : 0 ≤ v * k := Int.mul_nonneg hv (by omega)
      have hle := hmono r u (v * k + x) hst.2 (by omega) (fun y hy => hk y (List.mem_cons_of_mem _ hy))
      have w1 : IntKind.i64.wrap (v * k) = v * k := wrap_eq (by omega) (by omega)
      have w2 : IntKind.i64.wrap (v * k + x) = v * k + x := wrap_eq (by omega) (by omega)
      rw [Rg, M_b_Rank_L1_B, ix_at hk1, ixv, w1, w2]
      exact rank_loop vars s B hB u r (n + 1) (v * k + x) hs2 hr2 (by simpa using hl) (by omega) hst.2 (fun y hy => hk y (List.mem_cons_of_mem _ hy)) hb
theorem rank_eq {t : GTask} (hsm : smallF t = true) {s : List Int} (hs : stateF t.Vars s = true) : ∃ k : Nat, M_b_Rank t.Vars s = some (k : Int) ∧ (allF t)[k]? = some s := by
  obtain ⟨k, e1, e2⟩ := rank_all hs
  have hlen := (stateF_st hs).len
  have hv := (small_good hsm).2.1
  have hk : k < (allF t).length := (List.getElem?_eq_some_iff.1 e2).1
  have hal := allF_len t hsm
  refine ⟨k, ?_, e2⟩
  rw [M_b_Rank, M_b_Rank_L1_eq t.Vars s 0 (by omega)]
  have := rank_loop t.Vars s 1000000 (by decide) s t.Vars 0 0 rfl rfl hlen (by decide) hs (good_dom (small_good hsm).1).dom (by rw [e1]; omega)
  rw [e1] at this
  exact this
structure EdgP (t : GTask) (e : GEdge) : Prop where
  ex : ∃ (a b q : Nat) (s : List Int) (o : GOp), e.From = (a : Int) ∧ e.To = (b : Int) ∧ e.Op = (q : Int) ∧ (allF t)[a]? = some s ∧ (allF t)[b]? = some (nextF s o) ∧ t.Ops[q]? = some o ∧ holdsF s o.Pre = true
theorem edges1 {t : GTask} (hsm : smallF t = true) (i : Nat) (s : List Int) (hi : (allF t)[i]? = some s) : ∀ (l : List GOp) (m j : Nat) (v : List GEdge), t.Ops.drop j = l → l.length = m → v.length + m ≤ 100000 → (∀ e ∈ v, EdgP t e) →
    ∃ v', Rn (M_b_Edges_L1_B t i s) (M_b_Edges_L1_E t i s) m j v = some v' ∧ v'.length ≤ v.length + m ∧ ∀ e ∈ v', EdgP t e
  | [], m, j, v, _, hm, _, hv => by subst hm; exact ⟨v, rfl, Nat.le_refl _, hv⟩
  | o :: os, m, j, v, hdr, hm, hlen, hv => by
    have hgood := (small_good hsm).1
    obtain ⟨hj, hd', hlt⟩ := drop_cons hdr
    obtain ⟨m, rfl⟩ : ∃ k, m = k + 1 := ⟨os.length, hm.symm⟩
    have hst := (allF_mem t s).1 (List.mem_of_getElem? hi)
    have hm' : os.length = m := by simpa using hm
    rw [Rn, M_b_Edges_L1_B, apply_eq t hgood s (stateF_st hst) j o hj]
    by_cases hp : holdsF s o.Pre = true
    · obtain ⟨k, e1, e2⟩ := rank_eq hsm (next_state hgood hst (List.mem_of_getElem? hj))
      rw [if_pos hp, ob2_some, sel_tt, e1, ob1_some, grd_t (by omega)]
      obtain ⟨v', h1, h2, h3⟩ := edges1 hsm i s hi os m (j + 1) (v ++ [{ From := (i : Int), Op := (j : Int), To := (k : Int) }]) hd' hm' (by simp; omega) (fun e he => by
        rcases List.mem_append.1 he with he | he
        · exact hv e he
        · rw [List.mem_singleton.1 he]; exact ⟨⟨i, k, j, s, o, rfl, rfl, rfl, hi, e2, hj, hp⟩⟩)
      exact ⟨v', h1, by simp at h2; omega, h3⟩
    · rw [if_neg hp, ob2_some, sel_ff]
      obtain ⟨v', h1, h2, h3⟩ := edges1 hsm i s hi os m (j + 1) v hd' hm' (by omega) hv
      exact ⟨v', h1, by omega, h3⟩
theorem edges2 {t : GTask} (hsm : smallF t = true) : ∀ (r : List (List Int)) (i : Nat) (v : List GEdge), (allF t).drop i = r → v.length + r.length * 20 ≤ 100000 → (∀ e ∈ v, EdgP t e) →
    ∃ v', Rg (M_b_Edges_L2_B t (allF t)) (M_b_Edges_L2_E t (allF t)) r i v = some v' ∧ v'.length ≤ 100000 ∧ ∀ e ∈ v', EdgP t e
  | [], i, v, _, hl, hv => ⟨v, by rw [Rg, M_b_Edges_L2_E, grd_t (by simp at hl; omega)], by simpa using hl, hv⟩
  | s :: r, i, v, hdr, hl, hv => by
    obtain ⟨hi, hd', hlt⟩ := drop_cons hdr
    have hops := (small_good hsm).2.2
    rw [List.length_cons] at hl
    rw [Rg, M_b_Edges_L2_B, ixv, M_b_Edges_L1_eq t i s v (m := t.Ops.length) (by rw [List.length_map]) (by omega)]
    obtain ⟨v1, h1, h2, h3⟩ := edges1 hsm i s hi t.Ops t.Ops.length 0 v rfl rfl (by omega) hv
    have h1' : Rn (M_b_Edges_L1_B t i s) (M_b_Edges_L1_E t i s) t.Ops.length 0 v = some v1 := h1
    rw [h1', ob1_some]
    exact edges2 hsm r (i + 1) v1 hd' (by omega) h3
theorem edges_eq {t : GTask} (hsm : smallF t = true) : ∃ es, M_b_Edges t = some es ∧ es.length ≤ 100000 ∧ ∀ e ∈ es, EdgP t e := by
  have hal := allF_len t hsm
  obtain ⟨es, h1, h2, h3⟩ := edges2 hsm (allF t) 0 [] rfl (by simp; omega) (fun e he => by cases he)
  refine ⟨es, ?_, h2, h3⟩
  rw [M_b_Edges, states_eq t hsm, ob1_some, M_b_Edges_L2_eq t (allF t) [] (by omega)]
  exact h1
end Go.Proofs.YtohjegemooakpaaGreat.Am
namespace Go.Proofs.YtohjegemooakpaaGreat.Am
open Go.RowKit
abbrev infD : Int := 1125899906842624
theorem take_set (x : Int) : ∀ (l : List Int) (n : Nat), n < l.length → (l.set n x).take (n + 1) = l.take n ++ [x]
  | [], n, h => by simp at h
  | y :: l, 0, _ => by simp
  | y :: l, n + 1, h => by
    rw [List.set_cons_succ, List.take_succ_cons, take_set x l n (by simpa using h), List.take_succ_cons, List.cons_append]
theorem sum_set (x : Int) : ∀ (l : List Int) (n : Nat) (y : Int), l[n]? = some y → (l.set n x).sum = l.sum - y + x
  | [], n, y, h => by simp at h
  | z :: l, 0, y, h => by
    simp only [List.getElem?_cons_zero, Option.some.injEq] at h
    subst h
    rw [List.set_cons_zero, List.sum_cons, List.sum_cons]; omega
  | z :: l, n + 1, y, h => by
    rw [List.getElem?_cons_succ] at h
    rw [List.set_cons_succ, List.sum_cons, List.sum_cons, sum_set x l n y h]; omega
theorem sum_pos : ∀ (l : List Int), (∀ x ∈ l, 0 ≤ x) → 0 ≤ l.sum
  | [], _ => by simp
  | x :: l, h => by
    have h0 := h x (List.mem_cons_self ..)
    have := sum_pos l (fun y hy => h y (List.mem_cons_of_mem _ hy))
    rw [List.sum_cons]; omega
theorem sum_le (B : Int) : ∀ (l : List Int), (∀ x ∈ l, x ≤ B) → l.sum ≤ B * l.length
  | [], _ => by simp
  | x :: l, h => by
    have h0 := h x (List.mem_cons_self ..)
    have := sum_le B l (fun y hy => h y (List.mem_cons_of_mem _ hy))
    rw [List.sum_cons, List.length_cons, Int.natCast_add, Int.mul_add]; omega
structure DInv (t : GTask) (Q : List Int → Int → Prop) (d : List Int) : Prop where
  len : d.length = (allF t).length
  ok : ∀ (i : Nat) (s : List Int) (x : Int), (allF t)[i]? = some s → d[i]? = some x → 0 ≤ x ∧ x ≤ infD ∧ (x ≠ infD → Q s x)
theorem DInv.all {t : GTask} {Q : List Int → Int → Prop} {d : List Int} (h : DInv t Q d) : ∀ x ∈ d, 0 ≤ x ∧ x ≤ infD := fun x hx => by
  obtain ⟨i, hi⟩ := List.getElem?_of_mem hx
  have hlt := (List.getElem?_eq_some_iff.1 hi).1
  have hs : (allF t)[i]? = some ((allF t)[i]'(by rw [← h.len]; exact hlt)) := List.getElem?_eq_getElem _
  obtain ⟨h1, h2, -⟩ := h.ok i _ x hs hi
  exact ⟨h1, h2⟩
structure DQ (t : GTask) (Q : List Int → Int → Prop) : Prop where
  goal : ∀ s ∈ allF t, holdsF s t.Goal = true → Q s 0
  step : ∀ s ∈ allF t, ∀ o ∈ t.Ops, holdsF s o.Pre = true → ∀ x : Int, 0 ≤ x → Q (nextF s o) x → Q s (x + o.Cost)
end Go.Proofs.YtohjegemooakpaaGreat.Am
namespace Go.Proofs.YtohjegemooakpaaGreat.Am
open Go.RowKit
def EdgI (t : GTask) (i q : Nat) (o : GOp) (s : List Int) (e : GEdge) : Prop := ∃ k : Nat, e = { From := (i : Int), Op := (q : Int), To := (k : Int) } ∧ (allF t)[k]? = some (nextF s o)
theorem edges1c {t : GTask} (hsm : smallF t = true) (i : Nat) (s : List Int) (hi : (allF t)[i]? = some s) : ∀ (l : List GOp) (m j : Nat) (v : List GEdge), t.Ops.drop j = l → l.length = m → v.length + m ≤ 100000 →
    ∃ v', Rn (M_b_Edges_L1_B t i s) (M_b_Edges_L1_E t i s) m j v = some v' ∧ v'.length ≤ v.length + m ∧ (∀ e ∈ v, e ∈ v') ∧ ∀ q o, j ≤ q → t.Ops[q]? = some o → holdsF s o.Pre = true → ∃ e ∈ v', EdgI t i q o s e
  | [], m, j, v, hdr, hm, _ => by
    subst hm
    refine ⟨v, rfl, Nat.le_refl _, fun _ h => h, fun q o hq ho _ => ?_⟩
    have hlt := (List.getElem?_eq_some_iff.1 ho).1
    have hn := congrArg List.length hdr
    simp only [List.length_drop, List.length_nil] at hn
    omega
  | o :: os, m, j, v, hdr, hm, hlen => by
    have hgood := (small_good hsm).1
    obtain ⟨hj, hd', hlt⟩ := drop_cons hdr
    obtain ⟨m, rfl⟩ : ∃ k, m = k + 1 := ⟨os.length, hm.symm⟩
    have hst := (allF_mem t s).1 (List.mem_of_getElem? hi)
    have hm' : os.length = m := by simpa using hm
    rw [Rn, M_b_Edges_L1_B, apply_eq t hgood s (stateF_st hst) j o hj]
    by_cases hp : holdsF s o.Pre = true
    · obtain ⟨k, e1, e2⟩ := rank_eq hsm (next_state hgood hst (List.mem_of_getElem? hj))
      rw [if_pos hp, ob2_some, sel_tt, e1, ob1_some, grd_t (by omega)]
      obtain ⟨v', h1, h2, h3, h4⟩ := edges1c hsm i s hi os m (j + 1) (v ++ [{ From := (i : Int), Op := (j : Int), To := (k : Int) }]) hd' hm' (by simp; omega)
      refine ⟨v', h1, by simp at h2; omega, fun e he => h3 e (List.mem_append.2 (.inl he)), fun q u hq hu hpu => ?_⟩
      rcases Nat.lt_or_ge j q with hjq | hjq
      · exact h4 q u (by omega) hu hpu
      · obtain rfl : q = j := by omega
        rw [hj] at hu
        injection hu with hu
        subst hu
        exact ⟨_, h3 _ (List.mem_append.2 (.inr (List.mem_singleton.2 rfl))), k, rfl, e2⟩
    · rw [if_neg hp, ob2_some, sel_ff]
      obtain ⟨v', h1, h2, h3, h4⟩ := edges1c hsm i s hi os m (j + 1) v hd' hm' (by omega)
      refine ⟨v', h1, by omega, h3, fun q u hq hu hpu => ?_⟩
      rcases Nat.lt_or_ge j q with hjq | hjq
      · exact h4 q u (by omega) hu hpu
      · obtain rfl : q = j := by omega
        rw [hj] at hu
        injection hu with hu
        subst hu
        exact absurd hpu hp
theorem edges2c {t : GTask} (hsm : smallF t = true) : ∀ (r : List (List Int)) (i : Nat) (v : List GEdge), (allF t).drop i = r → v.length + r.length * 20 ≤ 100000 →
    ∃ v', Rg (M_b_Edges_L2_B t (allF t)) (M_b_Edges_L2_E t (allF t)) r i v = some v' ∧ (∀ e ∈ v, e ∈ v') ∧ ∀ k s q o, i ≤ k → (allF t)[k]? = some s → t.Ops[q]? = some o → holdsF s o.Pre = true → ∃ e ∈ v', EdgI t k q o s e
  | [], i, v, hdr, hl => by
    refine ⟨v, by rw [Rg, M_b_Edges_L2_E, grd_t (by simp at hl; omega)], fun _ h => h, fun k s q o hk hs _ _ => ?_⟩
    have hlt := (List.getElem?_eq_some_iff.1 hs).1
    have hn := congrArg List.length hdr
    simp only [List.length_drop, List.length_nil] at hn
    omega
  | s :: r, i, v, hdr, hl => by
    obtain ⟨hi, hd', hlt⟩ := drop_cons hdr
    have hops := (small_good hsm).2.2
    rw [List.length_cons] at hl
    rw [Rg, M_b_Edges_L2_B, ixv, M_b_Edges_L1_eq t i s v (m := t.Ops.length) (by rw [List.length_map]) (by omega)]
    obtain ⟨v1, h1, h2, h3, h4⟩ := edges1c hsm i s hi t.Ops t.Ops.length 0 v rfl rfl (by omega)
    have h1' : Rn (M_b_Edges_L1_B t i s) (M_b_Edges_L1_E t i s) t.Ops.length 0 v = some v1 := h1
    rw [h1', ob1_some]
    obtain ⟨v', g1, g2, g3⟩ := edges2c hsm r (i + 1) v1 hd' (by omega)
    refine ⟨v', g1, fun e he => g2 e (h3 e he), fun k u q o hk hu ho hp => ?_⟩
    rcases Nat.lt_or_ge i k with hik | hik
    · exact g3 k u q o (by omega) hu ho hp
    · obtain rfl : k = i := by omega
      rw [hi] at hu
      injection hu with hu
      subst hu
      obtain ⟨e, he, hx⟩ := h4 q o (Nat.zero_le _) ho hp
      exact ⟨e, g2 e he, hx⟩
theorem edges_all {t : GTask} (hsm : smallF t = true) : ∃ es, M_b_Edges t = some es ∧ es.length ≤ 100000 ∧ (∀ e ∈ es, EdgP t e) ∧ ∀ k s q o, (allF t)[k]? = some s → t.Ops[q]? = some o → holdsF s o.Pre = true → ∃ e ∈ es, EdgI t k q o s e := by
  have hal := allF_len t hsm
  obtain ⟨es, h1, h2, h3⟩ := edges_eq hsm
  obtain ⟨es', g1, -, g3⟩ := edges2c hsm (allF t) 0 [] rfl (by simp; omega)
  have he : M_b_Edges t = some es' := by
    rw [M_b_Edges, states_eq t hsm, ob1_some, M_b_Edges_L2_eq t (allF t) [] (by omega)]
    exact g1
  rw [h1] at he
  obtain rfl := Option.some.inj he
  exact ⟨es, h1, h2, h3, fun k s q o hk ho hp => g3 k s q o (Nat.zero_le _) hk ho hp⟩
def finN (d : List Int) : Nat := (d.filter fun x => decide (x ≠ infD)).length
theorem finN_set : ∀ (d : List Int) (a : Nat) (y v : Int), d[a]? = some y → v ≠ infD → finN (d.set a v) = finN d + (if y = infD then 1 else 0)
  | [], a, y, v, h, _ => by simp at h
  | z :: d, 0, y, v, h, hv => by
    simp only [List.getElem?_cons_zero, Option.some.injEq] at h
    subst h
    unfold finN
    rw [List.set_cons_zero, List.filter_cons, List.filter_cons, if_pos (decide_eq_true hv)]
    by_cases hz : z = infD
    · rw [if_neg (by simp [hz]), if_pos hz, List.length_cons]
    · rw [if_pos (decide_eq_true hz), if_neg hz, List.length_cons, List.length_cons, Nat.add_zero]
  | z :: d, a + 1, y, v, h, hv => by
    rw [List.getElem?_cons_succ] at h
    have ih := finN_set d a y v h hv
    unfold finN at ih ⊢
    rw [List.set_cons_succ, List.filter_cons, List.filter_cons]
    split
    · rw [List.length_cons, List.length_cons, ih]; omega
    · exact ih
theorem finN_le (d : List Int) : finN d ≤ d.length := List.length_filter_le _ _
structure DG (t : GTask) (d : List Int) : Prop where
  len : d.length = (allF t).length
  ok : ∀ (i : Nat) (s : List Int) (x : Int), (allF t)[i]? = some s → d[i]? = some x → 0 ≤ x ∧ x ≤ infD ∧ (holdsF s t.Goal = true → x = 0)
  bnd : ∀ x ∈ d, x ≠ infD → x ≤ 1048576 * (finN d : Int)
theorem DG.all {t : GTask} {d : List Int} (h : DG t d) : ∀ x ∈ d, 0 ≤ x ∧ x ≤ infD := fun x hx => by
  obtain ⟨i, hi⟩ := List.getElem?_of_mem hx
  have hlt := (List.getElem?_eq_some_iff.1 hi).1
  have hs : (allF t)[i]? = some ((allF t)[i]'(by rw [← h.len]; exact hlt)) := List.getElem?_eq_getElem _
  obtain ⟨h1, h2, -⟩ := h.ok i _ x hs hi
  exact ⟨h1, h2⟩
structure DFix (t : GTask) (d : List Int) : Prop where
  g : DG t d
  step : ∀ (i k : Nat) (s : List Int) (o : GOp) (x y : Int), (allF t)[i]? = some s → o ∈ t.Ops → holdsF s o.Pre = true → (allF t)[k]? = some (nextF s o) → d[k]? = some x → d[i]? = some y → x < infD → y ≤ x + o.Cost
end Go.Proofs.YtohjegemooakpaaGreat.Am
namespace Go.Proofs.YtohjegemooakpaaGreat.Am
open Go.RowKit
theorem awakeE : M_l32_awake 1000000000000000000 = some true := by kernel_rfl
end Go.Proofs.YtohjegemooakpaaGreat.Am
namespace Go.Proofs.YtohjegemooakpaaGreat.Am
set_option maxHeartbeats 16000000
set_option maxRecDepth 100000
open Go.RowKit
def M_l32_single_L1 (y105 : GOp) : Nat → Int → Int → Option (Int)
  | 0, _, _ => none
  | k122 + 1, v120, v121 =>
    sel (decide (v121 < ((y105.Effs.map cGEffect).length : Int)))
     (ix y105.Effs v121 (fun y123 =>
       sel (decide (((y123.When.map cF).length : Int) > 0))
        (M_l32_single_L1 y105 k122 (IntKind.i64.wrap (v120 + 1)) (IntKind.i64.wrap (v121 + 1)))
        (M_l32_single_L1 y105 k122 v120 (IntKind.i64.wrap (v121 + 1)))))
     (some v120)
def M_l32_single_L2 (a0 : GTask) : Nat → Int → Option (Bool)
  | 0, _ => none
  | k83 + 1, v82 =>
    sel (decide (v82 < ((a0.Ops.map cGOp).length : Int)))
     (ob1 (ix a0.Ops v82 (fun y105 =>
        ob1 (M_l32_single_L1 y105 ((((y105.Effs.map cGEffect).length : Int)).toNat + 1) 0 0 : Option (Int))
         (fun v114 => sel (decide (v114 > 1))
            (some (.inr false))
            (some (.inl ())))) : Option (Unit ⊕ Bool))
       (osum
       (fun _ => M_l32_single_L2 a0 k83 (IntKind.i64.wrap (v82 + 1)))
       (fun r103 => some r103)))
     (some true)
def M_l32_single (a0 : GTask) : Option (Bool) :=
  M_l32_single_L2 a0 ((((a0.Ops.map cGOp).length : Int)).toNat + 1) 0
theorem A_l32_single (a0 : GTask) {r1 : Bool} (h : M_l32_single a0 = some r1) : ACall cx 29 [.agg [.sl 1 (a0.Vars.map cI), .sl 1 (a0.Init.map cI), .sl 2 (a0.Goal.map cF), .sl 4 (a0.Ops.map cGOp)]] (.c (.bool r1)) := by
  refine aOf Tryz.func29 rfl (by decide) rfl (Nat.le_of_ble_eq_true rfl) ?_; intro _; unfold M_l32_single at h; refine aSR ?_; intro _; refine dr ?_; refine aSq ?_; refine aSR ?_; intro _; refine dr ?_; refine aBk ?_; refine awp_loop (α := Nat × Int) (fun x => mkS 32 [(9, .sl 4 (a0.Ops.map cGOp)), (10, .c (.int .i64 ((a0.Ops.map cGOp).length : Int))), (11, .c (.int .i64 x.2))] []) (fun x => M_l32_single_L2 a0 x.1 x.2 = some r1) (fun x => x.1) ((((a0.Ops.map cGOp).length : Int)).toNat + 1, 0) h ?_ ?_
  · exact ca_0
  · intro x1 h; intro _; obtain ⟨k83, m2, h⟩ := succ_of (f := fun n => M_l32_single_L2 a0 n x1.2) rfl h; replace h : M_l32_single_L2 a0 (k83 + 1) x1.2 = some r1 := h; rw [M_l32_single_L2] at h; refine aSR ?_; intro _; refine dr ?_; refine aSq ?_; refine aCd ?_; intro _; refine spl h (fun c3 h => ?_) (fun c3 h => ?_)
    · refine aSk ?_; obtain ⟨o4, h, hK5⟩ := ob1_ok h; refine awp_cut (α := Unit) (fun _ => mkS 32 [(9, .sl 4 (a0.Ops.map cGOp)), (10, .c (.int .i64 ((a0.Ops.map cGOp).length : Int))), (11, .c (.int .i64 x1.2))] []) (fun v => o4 = (.inl v)) ?_ ?_
      · refine aBk ?_; refine aSR ?_; intro _; obtain ⟨y105, w6, q7, h⟩ := ix_ok h; refine Exists.intro (cGOp y105) (And.intro (map_at' w6) ?_); intro _; refine pr ?_; refine dr ?_; refine aSR ?_; intro _; refine dr ?_; obtain ⟨o8, h, hK9⟩ := ob1_ok h; refine awp_cut (α := Int) (fun v114 => mkS 32 [(5, .c (.int .i64 v114)), (9, .sl 4 (a0.Ops.map cGOp)), (10, .c (.int .i64 ((a0.Ops.map cGOp).length : Int))), (11, .c (.int .i64 x1.2))] []) (fun v => o8 = v) ?_ ?_
        · refine aSR ?_; intro _; refine dr ?_; refine aBk ?_; refine awp_loop (α := Nat × Int × Int) (fun x => mkS 32 [(5, .c (.int .i64 x.2.1)), (9, .sl 4 (a0.Ops.map cGOp)), (10, .c (.int .i64 ((a0.Ops.map cGOp).length : Int))), (11, .c (.int .i64 x1.2)), (16, .sl 3 (y105.Effs.map cGEffect)), (17, .c (.int .i64 ((y105.Effs.map cGEffect).length : Int))), (18, .c (.int .i64 x.2.2))] []) (fun x => M_l32_single_L1 y105 x.1 x.2.1 x.2.2 = some o8) (fun x => x.1) ((((y105.Effs.map cGEffect).length : Int)).toNat + 1, 0, 0) h ?_ ?_
          · exact ca_0
          · intro x10 h; intro _; obtain ⟨k122, m11, h⟩ := succ_of (f := fun n => M_l32_single_L1 y105 n x10.2.1 x10.2.2) rfl h; replace h : M_l32_single_L1 y105 (k122 + 1) x10.2.1 x10.2.2 = some o8 := h; rw [M_l32_single_L1] at h; refine aSR ?_; intro _; refine dr ?_; refine aSq ?_; refine aCd ?_; intro _; refine spl h (fun c12 h => ?_) (fun c12 h => ?_)
            · refine aSk ?_; refine aSq ?_; refine aBk ?_; refine aSR ?_; intro _; obtain ⟨y123, w13, q14, h⟩ := ix_ok h; refine Exists.intro (cGEffect y123) (And.intro (map_at' w13) ?_); intro _; refine pr ?_; refine dr ?_; refine aSR ?_; intro _; refine dr ?_; refine aCd ?_; intro _; refine spl h (fun c15 h => ?_) (fun c15 h => ?_)
              · refine aRg ?_; intro _; refine dr ?_; refine aRg ?_; intro _; refine dr ?_; refine ⟨(k122, (IntKind.i64.wrap (x10.2.1 + 1)), (IntKind.i64.wrap (x10.2.2 + 1))), h, ltS m11, ?_⟩; exact ca_0
              · refine aSk ?_; refine aRg ?_; intro _; refine dr ?_; refine ⟨(k122, x10.2.1, (IntKind.i64.wrap (x10.2.2 + 1))), h, ltS m11, ?_⟩; exact ca_0
            · refine aEx ?_; refine ⟨x10.2.1, (Option.some.inj h).symm, ?_⟩; exact ca_0
        · rintro v114 ho; have ho := ho.symm; subst ho; intro _; replace h := hK9; refine aSR ?_; intro _; refine dr ?_; refine aCd ?_; intro _; refine spl h (fun c16 h => ?_) (fun c16 h => ?_)
          · refine aSR ?_; intro _; refine dr ?_; refine aRt ?_; have j17 := Option.some.inj h; subst j17; replace h := (osum_r hK5); intro _; obtain rfl := inj1 h; exact ca_0
          · refine aSk ?_; refine ⟨(), (Option.some.inj h).symm, ?_⟩; exact ca_0
      · rintro _ ho; have ho := ho.symm; subst ho; intro _; replace h := (osum_l hK5); refine aRg ?_; intro _; refine dr ?_; refine ⟨(k83, (IntKind.i64.wrap (x1.2 + 1))), h, ltS m2, ?_⟩; exact ca_0
    · refine aEx ?_; refine aSR ?_; intro _; refine dr ?_; refine aRt ?_; intro _; obtain rfl := inj1 h; exact ca_0
def M_r32_goal_L1 (a1 : List Int) (a2 : List Int) (y60 : Fact) : Nat → Int → Option (Unit ⊕ Bool)
  | 0, _ => none
  | k67 + 1, v66 =>
    sel (decide (v66 < ((a1.map cI).length : Int)))
     (ix a1 v66 (fun y68 =>
       sel (y60.1 == y68)
        (ix a2 y68 (fun y69 =>
          sel (y69 != y60.2)
           (some (.inr false))
           (M_r32_goal_L1 a1 a2 y60 k67 (IntKind.i64.wrap (v66 + 1)))))
        (M_r32_goal_L1 a1 a2 y60 k67 (IntKind.i64.wrap (v66 + 1)))))
     (some (.inl ()))
def M_r32_goal_L2 (a0 : GTask) (a1 : List Int) (a2 : List Int) : Nat → Int → Option (Bool)
  | 0, _ => none
  | k47 + 1, v46 =>
    sel (decide (v46 < ((a0.Goal.map cF).length : Int)))
     (ob1 (ix a0.Goal v46 (fun y60 =>
        M_r32_goal_L1 a1 a2 y60 ((((a1.map cI).length : Int)).toNat + 1) 0) : Option (Unit ⊕ Bool))
       (osum
       (fun _ => M_r32_goal_L2 a0 a1 a2 k47 (IntKind.i64.wrap (v46 + 1)))
       (fun r58 => some r58)))
     (some true)
def M_r32_goal (a0 : GTask) (a1 : List Int) (a2 : List Int) : Option (Bool) :=
  M_r32_goal_L2 a0 a1 a2 ((((a0.Goal.map cF).length : Int)).toNat + 1) 0
theorem A_r32_goal (a0 : GTask) (a1 : List Int) (a2 : List Int) {r1 : Bool} (h : M_r32_goal a0 a1 a2 = some r1) : ACall cx 59 [.agg [.sl 1 (a0.Vars.map cI), .sl 1 (a0.Init.map cI), .sl 2 (a0.Goal.map cF), .sl 4 (a0.Ops.map cGOp)], .sl 1 (a1.map cI), .sl 1 (a2.map cI)] (.c (.bool r1)) := by
  refine aOf Tryz.func59 rfl (by decide) rfl (Nat.le_of_ble_eq_true rfl) ?_; intro _; unfold M_r32_goal at h; refine aSR ?_; intro _; refine dr ?_; refine aSq ?_; refine aSR ?_; intro _; refine dr ?_; refine aBk ?_; refine awp_loop (α := Nat × Int) (fun x => mkS 39 [(1, .sl 1 (a1.map cI)), (2, .sl 1 (a2.map cI)), (12, .sl 2 (a0.Goal.map cF)), (13, .c (.int .i64 ((a0.Goal.map cF).length : Int))), (14, .c (.int .i64 x.2))] []) (fun x => M_r32_goal_L2 a0 a1 a2 x.1 x.2 = some r1) (fun x => x.1) ((((a0.Goal.map cF).length : Int)).toNat + 1, 0) h ?_ ?_
  · exact ca_0
  · intro x1 h; intro _; obtain ⟨k47, m2, h⟩ := succ_of (f := fun n => M_r32_goal_L2 a0 a1 a2 n x1.2) rfl h; replace h : M_r32_goal_L2 a0 a1 a2 (k47 + 1) x1.2 = some r1 := h; rw [M_r32_goal_L2] at h; refine aSR ?_; intro _; refine dr ?_; refine aSq ?_; refine aCd ?_; intro _; refine spl h (fun c3 h => ?_) (fun c3 h => ?_)
    · refine aSk ?_; obtain ⟨o4, h, hK5⟩ := ob1_ok h; refine awp_cut (α := Unit) (fun _ => mkS 39 [(1, .sl 1 (a1.map cI)), (2, .sl 1 (a2.map cI)), (12, .sl 2 (a0.Goal.map cF)), (13, .c (.int .i64 ((a0.Goal.map cF).length : Int))), (14, .c (.int .i64 x1.2))] []) (fun v => o4 = (.inl v)) ?_ ?_
      · refine aBk ?_; refine aSR ?_; intro _; obtain ⟨y60, w6, q7, h⟩ := ix_ok h; refine Exists.intro (cF y60) (And.intro (map_at' w6) ?_); intro _; refine pr ?_; refine dr ?_; refine aSR ?_; intro _; refine dr ?_; refine aBk ?_; refine awp_loop (α := Nat × Int) (fun x => mkS 39 [(1, .sl 1 (a1.map cI)), (2, .sl 1 (a2.map cI)), (8, .ptr 8 0 0 0), (12, .sl 2 (a0.Goal.map cF)), (13, .c (.int .i64 ((a0.Goal.map cF).length : Int))), (14, .c (.int .i64 x1.2)), (18, .sl 1 (a1.map cI)), (19, .c (.int .i64 ((a1.map cI).length : Int))), (20, .c (.int .i64 x.2))] [(8, ⟨68, 2, true, [[.c (.int .i64 y60.1), .c (.int .i64 y60.2)]]⟩)]) (fun x => M_r32_goal_L1 a1 a2 y60 x.1 x.2 = some o4) (fun x => x.1) ((((a1.map cI).length : Int)).toNat + 1, 0) h ?_ ?_
        · exact ca_0
        · intro x8 h; intro _; obtain ⟨k67, m9, h⟩ := succ_of (f := fun n => M_r32_goal_L1 a1 a2 y60 n x8.2) rfl h; replace h : M_r32_goal_L1 a1 a2 y60 (k67 + 1) x8.2 = some o4 := h; rw [M_r32_goal_L1] at h; refine aSR ?_; intro _; refine dr ?_; refine aSq ?_; refine aCd ?_; intro _; refine spl h (fun c10 h => ?_) (fun c10 h => ?_)
          · refine aSk ?_; refine aSq ?_; refine aBk ?_; refine aSR ?_; intro _; obtain ⟨y68, w11, q12, h⟩ := ix_ok h; refine Exists.intro (cI y68) (And.intro (map_at' w11) ?_); intro _; refine pr ?_; refine dr ?_; refine aSR ?_; intro _; refine spl h (fun c13 h => ?_) (fun c13 h => ?_)
            · intro _; obtain ⟨y69, w14, q15, h⟩ := ix_ok h; refine Exists.intro (cI y69) (And.intro (map_at' w14) ?_); intro _; refine pr ?_; refine dr ?_; refine aCd ?_; intro _; refine spl h (fun c16 h => ?_) (fun c16 h => ?_)
              · refine aSR ?_; intro _; refine dr ?_; refine aRt ?_; have j17 := Option.some.inj h; subst j17; replace h := (osum_r hK5); intro _; obtain rfl := inj1 h; exact ca_0
              · refine aSk ?_; refine aRg ?_; intro _; refine dr ?_; refine ⟨(k67, (IntKind.i64.wrap (x8.2 + 1))), h, ltS m9, ?_⟩; exact ca_0
            · intro _; refine dr ?_; refine aCd ?_; intro _; refine litF ?_; refine aSk ?_; refine aRg ?_; intro _; refine dr ?_; refine ⟨(k67, (IntKind.i64.wrap (x8.2 + 1))), h, ltS m9, ?_⟩; exact ca_0
          · refine aEx ?_; refine ⟨(), (Option.some.inj h).symm, ?_⟩; exact ca_0
      · rintro _ ho; have ho := ho.symm; subst ho; intro _; replace h := (osum_l hK5); refine aRg ?_; intro _; refine dr ?_; refine ⟨(k47, (IntKind.i64.wrap (x1.2 + 1))), h, ltS m2, ?_⟩; exact ca_0
    · refine aEx ?_; refine aSR ?_; intro _; refine dr ?_; refine aRt ?_; intro _; obtain rfl := inj1 h; exact ca_0
def M_r32_Project_L1 (a0 : GTask) (a1 : List Int) (a2 : List Int) : Nat → Int → Int → Option (Int)
  | 0, _, _ => none
  | k11 + 1, v9, v10 =>
    sel (decide (v10 < ((a1.map cI).length : Int)))
     (ix a1 v10 (fun y12 =>
       ix a0.Vars y12 (fun y13 =>
        ix a2 y12 (fun y14 =>
         M_r32_Project_L1 a0 a1 a2 k11 (IntKind.i64.wrap ((IntKind.i64.wrap (v9 * y13)) + y14)) (IntKind.i64.wrap (v10 + 1))))))
     (some v9)
def M_r32_Project (a0 : GTask) (a1 : List Int) (a2 : List Int) : Option (Int) :=
  M_r32_Project_L1 a0 a1 a2 ((((a1.map cI).length : Int)).toNat + 1) 0 0
theorem A_r32_Project (a0 : GTask) (a1 : List Int) (a2 : List Int) {r1 : Int} (h : M_r32_Project a0 a1 a2 = some r1) : ACall cx 31 [.agg [.sl 1 (a0.Vars.map cI), .sl 1 (a0.Init.map cI), .sl 2 (a0.Goal.map cF), .sl 4 (a0.Ops.map cGOp)], .sl 1 (a1.map cI), .sl 1 (a2.map cI)] (.c (.int .i64 r1)) := by
  refine aOf Tryz.func31 rfl (by decide) rfl (Nat.le_of_ble_eq_true rfl) ?_; intro _; unfold M_r32_Project at h; refine aSR ?_; intro _; refine dr ?_; refine aSR ?_; intro _; refine dr ?_; refine aSq ?_; refine aSR ?_; intro _; refine dr ?_; refine aBk ?_; refine awp_loop (α := Nat × Int × Int) (fun x => mkS 30 [(2, .sl 1 (a2.map cI)), (3, .ptr 3 0 0 0), (7, .c (.int .i64 x.2.1)), (10, .sl 1 (a1.map cI)), (11, .c (.int .i64 ((a1.map cI).length : Int))), (12, .c (.int .i64 x.2.2))] [(3, ⟨26, 4, true, [[.sl 1 (a0.Vars.map cI), .sl 1 (a0.Init.map cI), .sl 2 (a0.Goal.map cF), .sl 4 (a0.Ops.map cGOp)]]⟩)]) (fun x => M_r32_Project_L1 a0 a1 a2 x.1 x.2.1 x.2.2 = some r1) (fun x => x.1) ((((a1.map cI).length : Int)).toNat + 1, 0, 0) h ?_ ?_
  · exact ca_0
  · intro x1 h; intro _; obtain ⟨k11, m2, h⟩ := succ_of (f := fun n => M_r32_Project_L1 a0 a1 a2 n x1.2.1 x1.2.2) rfl h; replace h : M_r32_Project_L1 a0 a1 a2 (k11 + 1) x1.2.1 x1.2.2 = some r1 := h; rw [M_r32_Project_L1] at h; refine aSR ?_; intro _; refine dr ?_; refine aSq ?_; refine aCd ?_; intro _; refine spl h (fun c3 h => ?_) (fun c3 h => ?_)
    · refine aSk ?_; refine aSq ?_; refine aBk ?_; refine aSR ?_; intro _; obtain ⟨y12, w4, q5, h⟩ := ix_ok h; refine Exists.intro (cI y12) (And.intro (map_at' w4) ?_); intro _; refine pr ?_; refine dr ?_; refine aRg ?_; intro _; obtain ⟨y13, w6, q7, h⟩ := ix_ok h; refine Exists.intro (cI y13) (And.intro (map_at' w6) ?_); intro _; obtain ⟨y14, w8, q9, h⟩ := ix_ok h; refine Exists.intro (cI y14) (And.intro (map_at' w8) ?_); intro _; refine pr ?_; refine pr ?_; refine dr ?_; refine aRg ?_; intro _; refine dr ?_; refine ⟨(k11, (IntKind.i64.wrap ((IntKind.i64.wrap (x1.2.1 * y13)) + y14)), (IntKind.i64.wrap (x1.2.2 + 1))), h, ltS m2, ?_⟩; exact ca_0
    · refine aEx ?_; refine aSR ?_; intro _; refine dr ?_; refine aRt ?_; intro _; obtain rfl := inj1 h; exact ca_0
def M_r32_Abstract_L1 (z3 : Int) : Nat → Int → (List Int) → Option (List Int)
  | 0, _, _ => none
  | k20 + 1, v18, v19 =>
    sel (decide (v18 < ((z3.toNat : Nat) : Int)))
     (ixn v19 ((v18).toNat) (fun _ =>
       grd (0 ≤ v18) (grd (v18 < ((v19.length : Nat) : Int)) (M_r32_Abstract_L1 z3 k20 (IntKind.i64.wrap (v18 + 1)) (v19.set ((v18).toNat) 1125899906842624)))))
     (some v19)
def M_r32_Abstract_L2 (a0 : GTask) (a1 : List Int) (z1 : List (List Int)) : Nat → Int → (List Int) → Option (List Int)
  | 0, _, _ => none
  | k53 + 1, v51, v52 =>
    sel (decide (v51 < ((z1.map cL_cI).length : Int)))
     (ix z1 v51 (fun y54 =>
       ob1 (M_r32_goal a0 a1 y54) (fun z55 =>
        sel z55
         (ob1 (M_r32_Project a0 a1 y54) (fun z56 =>
           ixn v52 ((z56).toNat) (fun _ =>
            grd (0 ≤ z56) (grd (z56 < ((v52.length : Nat) : Int)) (M_r32_Abstract_L2 a0 a1 z1 k53 (IntKind.i64.wrap (v51 + 1)) (v52.set ((z56).toNat) 0))))))
         (M_r32_Abstract_L2 a0 a1 z1 k53 (IntKind.i64.wrap (v51 + 1)) v52))))
     (some v52)
def M_r32_Abstract_L3 (a0 : GTask) (a1 : List Int) (z1 : List (List Int)) (z58 : List GEdge) : Nat → Bool → Int → (List Int) → Option (Bool × (List Int))
  | 0, _, _, _ => none
  | k420 + 1, v417, v418, v419 =>
    sel (decide (v418 < ((z58.map cGEdge).length : Int)))
     (ix z58 v418 (fun y421 =>
       ix z1 y421.From (fun y422 =>
        ob1 (M_r32_Project a0 a1 y422) (fun z423 =>
         ix z1 y421.To (fun y424 =>
          ob1 (M_r32_Project a0 a1 y424) (fun z425 =>
           ob1 (ixn v419 ((z425).toNat) (fun y432 =>
             sel (decide (y432 < 1125899906842624))
              (ixn v419 ((z425).toNat) (fun y433 =>
                ix a0.Ops y421.Op (fun y434 =>
                 ixn v419 ((z423).toNat) (fun y435 =>
                  grd (0 ≤ z425) (grd (z425 < ((v419.length : Nat) : Int)) (grd (0 ≤ z423) (grd (z423 < ((v419.length : Nat) : Int)) (some (decide ((IntKind.i64.wrap (y433 + y434.Cost)) < y435))))))))))
              (grd (0 ≤ z425) (grd (z425 < ((v419.length : Nat) : Int)) (some false)))) : Option (Bool))
            (fun v430 => sel v430
               (ixn v419 ((z425).toNat) (fun y436 =>
                 ix a0.Ops y421.Op (fun y437 =>
                  ixn v419 ((z423).toNat) (fun _ =>
                   grd (0 ≤ z425) (grd (z425 < ((v419.length : Nat) : Int)) (grd (0 ≤ z423) (grd (z423 < ((v419.length : Nat) : Int)) (M_r32_Abstract_L3 a0 a1 z1 z58 k420 true (IntKind.i64.wrap (v418 + 1)) (v419.set ((z423).toNat) (IntKind.i64.wrap (y436 + y437.Cost)))))))))))
               (M_r32_Abstract_L3 a0 a1 z1 z58 k420 v417 (IntKind.i64.wrap (v418 + 1)) v419))))))))
     (some (v417, v419))
def M_r32_Abstract_L4 (a0 : GTask) (a1 : List Int) (z1 : List (List Int)) (z58 : List GEdge) : Nat → Bool → (List Int) → Option (List Int)
  | 0, _, _ => none
  | k313 + 1, v311, v312 =>
    sel v311
     (ob1 (M_r32_Abstract_L3 a0 a1 z1 z58 ((((z58.map cGEdge).length : Int)).toNat + 1) false 0 v312 : Option (Bool × (List Int)))
       (fun (v375, v376) => M_r32_Abstract_L4 a0 a1 z1 z58 k313 v375 v376))
     (grd (v312.length ≤ 140737488355328) (some v312))
def M_r32_Abstract (g : Nat) (a0 : GTask) (a1 : List Int) : Option (List Int) :=
  ob1 (M_b_States a0.Vars) (fun z1 =>
   ob1 (M_r32_Sizes a0 a1) (fun z2 =>
    ob1 (M_b_Many z2 65536) (fun z3 =>
     grd (0 ≤ z3) (grd (z3 * 8 ≤ 281474976710656) (ob1 (M_r32_Abstract_L1 z3 ((((z3.toNat : Nat) : Int)).toNat + 1) 0 (List.replicate z3.toNat 0) : Option (List Int))
      (fun v12 => ob1 (M_r32_Abstract_L2 a0 a1 z1 ((((z1.map cL_cI).length : Int)).toNat + 1) 0 v12 : Option (List Int))
         (fun v39 => ob1 (M_b_Edges a0) (fun z58 =>
            M_r32_Abstract_L4 a0 a1 z1 z58 g true v39))))))))
theorem A_r32_Abstract (g : Nat) (a0 : GTask) (a1 : List Int) {r1 : List Int} (h : M_r32_Abstract g a0 a1 = some r1) : ACall cx 30 [.agg [.sl 1 (a0.Vars.map cI), .sl 1 (a0.Init.map cI), .sl 2 (a0.Goal.map cF), .sl 4 (a0.Ops.map cGOp)], .sl 1 (a1.map cI)] (.sl 1 (r1.map cI)) := by
  refine aOf Tryz.func30 rfl (by decide) rfl (Nat.le_of_ble_eq_true rfl) ?_; intro _; unfold M_r32_Abstract at h; refine aSR ?_; intro _; refine dr ?_; refine aSR ?_; intro _; obtain ⟨z1, u1, h⟩ := ob1_ok h; refine cl rfl (A_b_States a0.Vars u1) ?_; intro _; refine dr ?_; refine aSR ?_; intro _; obtain ⟨z2, u2, h⟩ := ob1_ok h; refine cl rfl (A_r32_Sizes a0 a1 u2) ?_; intro _; obtain ⟨z3, u3, h⟩ := ob1_ok h; refine cl rfl (A_b_Many z2 65536 u3) ?_; intro _; obtain ⟨q4, h⟩ := grd_ok h; obtain ⟨q5, h⟩ := grd_ok h; refine ⟨_, lf_make rfl rfl (Nat.le_of_ble_eq_true rfl) (tyTab_ok 22 _ rfl) rfl (tyTab_ok 3 _ rfl) rfl rfl rfl (by first | assumption | omega) (by first | assumption | (show _ * (8 : Int) ≤ _; omega) | omega) (by omega) rfl (by simp only [Value.cells]; simp [Value.oneCell']) (by decide), ?_⟩; intro _; refine dr ?_; obtain ⟨o6, h, hK7⟩ := ob1_ok h; refine awp_cut (α := List Int) (fun v12 => mkS 116 [(1, .sl 1 (a1.map cI)), (2, .ptr 2 0 0 0), (5, .sl 1 (z1.map cL_cI)), (6, .own 23 0 0 v12.length)] [(2, ⟨26, 4, true, [[.sl 1 (a0.Vars.map cI), .sl 1 (a0.Init.map cI), .sl 2 (a0.Goal.map cF), .sl 4 (a0.Ops.map cGOp)]]⟩), (23, ⟨3, 1, false, v12.map cI⟩)]) (fun v => o6 = v) ?_ ?_
  · refine aSR ?_; intro _; refine dr ?_; refine aBk ?_; refine awp_loop (α := Nat × Int × (List Int)) (fun x => mkS 116 [(1, .sl 1 (a1.map cI)), (2, .ptr 2 0 0 0), (5, .sl 1 (z1.map cL_cI)), (6, .own 23 0 0 x.2.2.length), (25, .c (.int .i64 ((z3.toNat : Nat) : Int))), (26, .c (.int .i64 x.2.1))] [(2, ⟨26, 4, true, [[.sl 1 (a0.Vars.map cI), .sl 1 (a0.Init.map cI), .sl 2 (a0.Goal.map cF), .sl 4 (a0.Ops.map cGOp)]]⟩), (23, ⟨3, 1, false, x.2.2.map cI⟩)]) (fun x => M_r32_Abstract_L1 z3 x.1 x.2.1 x.2.2 = some o6) (fun x => x.1) ((((z3.toNat : Nat) : Int)).toNat + 1, 0, (List.replicate z3.toNat 0)) h ?_ ?_
    · exact ca_0
    · intro x8 h; intro _; obtain ⟨k20, m9, h⟩ := succ_of (f := fun n => M_r32_Abstract_L1 z3 n x8.2.1 x8.2.2) rfl h; replace h : M_r32_Abstract_L1 z3 (k20 + 1) x8.2.1 x8.2.2 = some o6 := h; rw [M_r32_Abstract_L1] at h; refine aSR ?_; intro _; refine dr ?_; refine aSq ?_; refine aCd ?_; intro _; refine spl h (fun c10 h => ?_) (fun c10 h => ?_)
      · refine aSk ?_; refine aSq ?_; refine aBk ?_; refine aSR ?_; intro _; refine dr ?_; refine aRg ?_; intro _; obtain ⟨y21, w11, h⟩ := ixn_ok h; refine Exists.intro (cI y21) (And.intro (by first | exact map_at' w11 | (have w := map_at' (f := cI) w11; simpa [cGEntry, cF, cGTask, cI, cGOp, cGEffect, cL_cF, cL_cL_cF, cL_cI, cGCertificate, cN, cGTable, cGCover, cGChecker, cGEdge] using w)) ?_); intro _; obtain ⟨q12, h⟩ := grd_ok h; obtain ⟨q13, h⟩ := grd_ok h; refine pr ?_; refine pr ?_; refine dr ?_; refine aRg ?_; intro _; refine dr ?_; refine ⟨(k20, (IntKind.i64.wrap (x8.2.1 + 1)), (x8.2.2.set ((x8.2.1).toNat) 1125899906842624)), h, ltS m9, ?_⟩; exact ca_0
      · refine aEx ?_; refine ⟨x8.2.2, (Option.some.inj h).symm, ?_⟩; exact ca_0
  · rintro v12 ho; have ho := ho.symm; subst ho; intro _; replace h := hK7; obtain ⟨o14, h, hK15⟩ := ob1_ok h; refine awp_cut (α := List Int) (fun v39 => mkS 116 [(1, .sl 1 (a1.map cI)), (2, .ptr 2 0 0 0), (5, .sl 1 (z1.map cL_cI)), (6, .own 23 0 0 v39.length)] [(2, ⟨26, 4, true, [[.sl 1 (a0.Vars.map cI), .sl 1 (a0.Init.map cI), .sl 2 (a0.Goal.map cF), .sl 4 (a0.Ops.map cGOp)]]⟩), (23, ⟨3, 1, false, v39.map cI⟩)]) (fun v => o14 = v) ?_ ?_
    · refine aSR ?_; intro _; refine dr ?_; refine aBk ?_; refine awp_loop (α := Nat × Int × (List Int)) (fun x => mkS 116 [(1, .sl 1 (a1.map cI)), (2, .ptr 2 0 0 0), (5, .sl 1 (z1.map cL_cI)), (6, .own 23 0 0 x.2.2.length), (33, .sl 1 (z1.map cL_cI)), (34, .c (.int .i64 ((z1.map cL_cI).length : Int))), (35, .c (.int .i64 x.2.1))] [(2, ⟨26, 4, true, [[.sl 1 (a0.Vars.map cI), .sl 1 (a0.Init.map cI), .sl 2 (a0.Goal.map cF), .sl 4 (a0.Ops.map cGOp)]]⟩), (23, ⟨3, 1, false, x.2.2.map cI⟩)]) (fun x => M_r32_Abstract_L2 a0 a1 z1 x.1 x.2.1 x.2.2 = some o14) (fun x => x.1) ((((z1.map cL_cI).length : Int)).toNat + 1, 0, v12) h ?_ ?_
      · exact ca_0
      · intro x16 h; intro _; obtain ⟨k53, m17, h⟩ := succ_of (f := fun n => M_r32_Abstract_L2 a0 a1 z1 n x16.2.1 x16.2.2) rfl h; replace h : M_r32_Abstract_L2 a0 a1 z1 (k53 + 1) x16.2.1 x16.2.2 = some o14 := h; rw [M_r32_Abstract_L2] at h; refine aSR ?_; intro _; refine dr ?_; refine aSq ?_; refine aCd ?_; intro _; refine spl h (fun c18 h => ?_) (fun c18 h => ?_)
        · refine aSk ?_; refine aSq ?_; refine aBk ?_; refine aSR ?_; intro _; obtain ⟨y54, w19, q20, h⟩ := ix_ok h; refine Exists.intro (cL_cI y54) (And.intro (map_at' w19) ?_); intro _; refine pr ?_; refine dr ?_; refine aSR ?_; intro _; obtain ⟨z55, u21, h⟩ := ob1_ok h; refine cl rfl (A_r32_goal a0 a1 y54 u21) ?_; intro _; refine dr ?_; refine aCd ?_; intro _; refine spl h (fun c22 h => ?_) (fun c22 h => ?_)
          · refine aRg ?_; intro _; obtain ⟨z56, u23, h⟩ := ob1_ok h; refine cl rfl (A_r32_Project a0 a1 y54 u23) ?_; intro _; obtain ⟨y57, w24, h⟩ := ixn_ok h; refine Exists.intro (cI y57) (And.intro (by first | exact map_at' w24 | (have w := map_at' (f := cI) w24; simpa [cGEntry, cF, cGTask, cI, cGOp, cGEffect, cL_cF, cL_cL_cF, cL_cI, cGCertificate, cN, cGTable, cGCover, cGChecker, cGEdge] using w)) ?_); intro _; obtain ⟨q25, h⟩ := grd_ok h; obtain ⟨q26, h⟩ := grd_ok h; refine pr ?_; refine pr ?_; refine dr ?_; refine aRg ?_; intro _; refine dr ?_; refine ⟨(k53, (IntKind.i64.wrap (x16.2.1 + 1)), (x16.2.2.set ((z56).toNat) 0)), h, ltS m17, ?_⟩; exact ca_0
          · refine aSk ?_; refine aRg ?_; intro _; refine dr ?_; refine ⟨(k53, (IntKind.i64.wrap (x16.2.1 + 1)), x16.2.2), h, ltS m17, ?_⟩; exact ca_0
        · refine aEx ?_; refine ⟨x16.2.2, (Option.some.inj h).symm, ?_⟩; exact ca_0
    · rintro v39 ho; have ho := ho.symm; subst ho; intro _; replace h := hK15; refine aSR ?_; intro _; obtain ⟨z58, u27, h⟩ := ob1_ok h; refine cl rfl (A_b_Edges a0 u27) ?_; intro _; refine dr ?_; refine aSq ?_; refine aSR ?_; intro _; refine dr ?_; refine aBk ?_; refine awp_loop (α := Nat × Bool × (List Int)) (fun x => mkS 116 [(1, .sl 1 (a1.map cI)), (2, .ptr 2 0 0 0), (5, .sl 1 (z1.map cL_cI)), (6, .own 23 0 0 x.2.2.length), (10, .sl 3 (z58.map cGEdge)), (11, .c (.bool x.2.1))] [(2, ⟨26, 4, true, [[.sl 1 (a0.Vars.map cI), .sl 1 (a0.Init.map cI), .sl 2 (a0.Goal.map cF), .sl 4 (a0.Ops.map cGOp)]]⟩), (23, ⟨3, 1, false, x.2.2.map cI⟩)]) (fun x => M_r32_Abstract_L4 a0 a1 z1 z58 x.1 x.2.1 x.2.2 = some r1) (fun x => x.1) (g, true, v39) h ?_ ?_
      · exact ca_0
      · intro x28 h; intro _; obtain ⟨k313, m29, h⟩ := succ_of (f := fun n => M_r32_Abstract_L4 a0 a1 z1 z58 n x28.2.1 x28.2.2) rfl h; replace h : M_r32_Abstract_L4 a0 a1 z1 z58 (k313 + 1) x28.2.1 x28.2.2 = some r1 := h; rw [M_r32_Abstract_L4] at h; refine aSq ?_; refine aSR ?_; intro _; refine dr ?_; refine aCd ?_; intro _; refine spl h (fun c30 h => ?_) (fun c30 h => ?_)
        · refine aSk ?_; refine aBk ?_; refine aSR ?_; intro _; refine dr ?_; refine aSR ?_; intro _; refine dr ?_; obtain ⟨o31, h, hK32⟩ := ob1_ok h; refine awp_cutT (α := Bool × (List Int)) (fun (v375, v376) => mkS 116 [(1, .sl 1 (a1.map cI)), (2, .ptr 2 0 0 0), (5, .sl 1 (z1.map cL_cI)), (6, .own 23 0 0 v376.length), (10, .sl 3 (z58.map cGEdge)), (11, .c (.bool v375))] [(2, ⟨26, 4, true, [[.sl 1 (a0.Vars.map cI), .sl 1 (a0.Init.map cI), .sl 2 (a0.Goal.map cF), .sl 4 (a0.Ops.map cGOp)]]⟩), (23, ⟨3, 1, false, v376.map cI⟩)]) (fun v => o31 = v) ?_ ?_
          · refine aBk ?_; refine awp_loop (α := Nat × Bool × Int × (List Int)) (fun x => mkS 116 [(1, .sl 1 (a1.map cI)), (2, .ptr 2 0 0 0), (5, .sl 1 (z1.map cL_cI)), (6, .own 23 0 0 x.2.2.2.length), (10, .sl 3 (z58.map cGEdge)), (11, .c (.bool x.2.1)), (53, .sl 3 (z58.map cGEdge)), (54, .c (.int .i64 ((z58.map cGEdge).length : Int))), (55, .c (.int .i64 x.2.2.1))] [(2, ⟨26, 4, true, [[.sl 1 (a0.Vars.map cI), .sl 1 (a0.Init.map cI), .sl 2 (a0.Goal.map cF), .sl 4 (a0.Ops.map cGOp)]]⟩), (23, ⟨3, 1, false, x.2.2.2.map cI⟩)]) (fun x => M_r32_Abstract_L3 a0 a1 z1 z58 x.1 x.2.1 x.2.2.1 x.2.2.2 = some o31) (fun x => x.1) ((((z58.map cGEdge).length : Int)).toNat + 1, false, 0, x28.2.2) h ?_ ?_
            · exact ca_0
            · intro x33 h; intro _; obtain ⟨k420, m34, h⟩ := succ_of (f := fun n => M_r32_Abstract_L3 a0 a1 z1 z58 n x33.2.1 x33.2.2.1 x33.2.2.2) rfl h; replace h : M_r32_Abstract_L3 a0 a1 z1 z58 (k420 + 1) x33.2.1 x33.2.2.1 x33.2.2.2 = some o31 := h; rw [M_r32_Abstract_L3] at h; refine aSR ?_; intro _; refine dr ?_; refine aSq ?_; refine aCd ?_; intro _; refine spl h (fun c35 h => ?_) (fun c35 h => ?_)
              · refine aSk ?_; refine aSq ?_; refine aBk ?_; refine aSR ?_; intro _; obtain ⟨y421, w36, q37, h⟩ := ix_ok h; refine Exists.intro (cGEdge y421) (And.intro (map_at' w36) ?_); intro _; refine pr ?_; refine dr ?_; refine aSR ?_; intro _; obtain ⟨y422, w38, q39, h⟩ := ix_ok h; refine Exists.intro (cL_cI y422) (And.intro (map_at' w38) ?_); intro _; obtain ⟨z423, u40, h⟩ := ob1_ok h; refine cl rfl (A_r32_Project a0 a1 y422 u40) ?_; intro _; obtain ⟨y424, w41, q42, h⟩ := ix_ok h; refine Exists.intro (cL_cI y424) (And.intro (map_at' w41) ?_); intro _; obtain ⟨z425, u43, h⟩ := ob1_ok h; refine cl rfl (A_r32_Project a0 a1 y424 u43) ?_; intro _; refine pr ?_; refine pr ?_; refine dr ?_; obtain ⟨o44, h, hK45⟩ := ob1_ok h; refine awp_cut (α := Bool) (fun v430 => mkS 116 [(1, .sl 1 (a1.map cI)), (2, .ptr 2 0 0 0), (5, .sl 1 (z1.map cL_cI)), (6, .own 23 0 0 x33.2.2.2.length), (10, .sl 3 (z58.map cGEdge)), (11, .c (.bool x33.2.1)), (13, .ptr 13 0 0 0), (14, .c (.int .i64 z423)), (15, .c (.int .i64 z425)), (53, .sl 3 (z58.map cGEdge)), (54, .c (.int .i64 ((z58.map cGEdge).length : Int))), (55, .c (.int .i64 x33.2.2.1)), (98, .c (.bool v430))] [(2, ⟨26, 4, true, [[.sl 1 (a0.Vars.map cI), .sl 1 (a0.Init.map cI), .sl 2 (a0.Goal.map cF), .sl 4 (a0.Ops.map cGOp)]]⟩), (13, ⟨93, 3, true, [[.c (.int .i64 y421.From), .c (.int .i64 y421.Op), .c (.int .i64 y421.To)]]⟩), (23, ⟨3, 1, false, x33.2.2.2.map cI⟩)]) (fun v => o44 = v) ?_ ?_
                · refine aRg ?_; intro _; obtain ⟨y432, w46, h⟩ := ixn_ok h; refine Exists.intro (cI y432) (And.intro (by first | exact map_at' w46 | (have w := map_at' (f := cI) w46; simpa [cGEntry, cF, cGTask, cI, cGOp, cGEffect, cL_cF, cL_cL_cF, cL_cI, cGCertificate, cN, cGTable, cGCover, cGChecker, cGEdge] using w)) ?_); intro _; refine spl h (fun c47 h => ?_) (fun c47 h => ?_)
                  · intro _; obtain ⟨y433, w48, h⟩ := ixn_ok h; refine Exists.intro (cI y433) (And.intro (by first | exact map_at' w48 | (have w := map_at' (f := cI) w48; simpa [cGEntry, cF, cGTask, cI, cGOp, cGEffect, cL_cF, cL_cL_cF, cL_cI, cGCertificate, cN, cGTable, cGCover, cGChecker, cGEdge] using w)) ?_); intro _; obtain ⟨y434, w49, q50, h⟩ := ix_ok h; refine Exists.intro (cGOp y434) (And.intro (map_at' w49) ?_); intro _; obtain ⟨y435, w51, h⟩ := ixn_ok h; refine Exists.intro (cI y435) (And.intro (by first | exact map_at' w51 | (have w := map_at' (f := cI) w51; simpa [cGEntry, cF, cGTask, cI, cGOp, cGEffect, cL_cF, cL_cL_cF, cL_cI, cGCertificate, cN, cGTable, cGCover, cGChecker, cGEdge] using w)) ?_); intro _; obtain ⟨q52, h⟩ := grd_ok h; obtain ⟨q53, h⟩ := grd_ok h; obtain ⟨q54, h⟩ := grd_ok h; obtain ⟨q55, h⟩ := grd_ok h; refine pr ?_; refine pr ?_; refine pr ?_; refine pr ?_; refine pr ?_; refine pr ?_; refine pr ?_; refine dr ?_; refine ⟨(decide ((IntKind.i64.wrap (y433 + y434.Cost)) < y435)), (Option.some.inj h).symm, ?_⟩; exact ca_0
                  · intro _; obtain ⟨q56, h⟩ := grd_ok h; obtain ⟨q57, h⟩ := grd_ok h; refine pr ?_; refine pr ?_; refine dr ?_; refine ⟨false, (Option.some.inj h).symm, ?_⟩; exact ca_0
                · rintro v430 ho; have ho := ho.symm; subst ho; intro _; replace h := hK45; refine aCd ?_; intro _; refine spl h (fun c58 h => ?_) (fun c58 h => ?_)
                  · refine aSR ?_; intro _; obtain ⟨y436, w59, h⟩ := ixn_ok h; refine Exists.intro (cI y436) (And.intro (by first | exact map_at' w59 | (have w := map_at' (f := cI) w59; simpa [cGEntry, cF, cGTask, cI, cGOp, cGEffect, cL_cF, cL_cL_cF, cL_cI, cGCertificate, cN, cGTable, cGCover, cGChecker, cGEdge] using w)) ?_); intro _; obtain ⟨y437, w60, q61, h⟩ := ix_ok h; refine Exists.intro (cGOp y437) (And.intro (map_at' w60) ?_); intro _; obtain ⟨y438, w62, h⟩ := ixn_ok h; refine Exists.intro (cI y438) (And.intro (by first | exact map_at' w62 | (have w := map_at' (f := cI) w62; simpa [cGEntry, cF, cGTask, cI, cGOp, cGEffect, cL_cF, cL_cL_cF, cL_cI, cGCertificate, cN, cGTable, cGCover, cGChecker, cGEdge] using w)) ?_); intro _; obtain ⟨q63, h⟩ := grd_ok h; obtain ⟨q64, h⟩ := grd_ok h; obtain ⟨q65, h⟩ := grd_ok h; obtain ⟨q66, h⟩ := grd_ok h; refine pr ?_; refine pr ?_; refine pr ?_; refine pr ?_; refine pr ?_; refine dr ?_; refine aRg ?_; intro _; refine dr ?_; refine aRg ?_; intro _; refine dr ?_; refine ⟨(k420, true, (IntKind.i64.wrap (x33.2.2.1 + 1)), (x33.2.2.2.set ((z423).toNat) (IntKind.i64.wrap (y436 + y437.Cost)))), h, ltS m34, ?_⟩; exact ca_0
                  · refine aSk ?_; refine aRg ?_; intro _; refine dr ?_; refine ⟨(k420, x33.2.1, (IntKind.i64.wrap (x33.2.2.1 + 1)), x33.2.2.2), h, ltS m34, ?_⟩; exact ca_0
              · refine aEx ?_; refine ⟨(x33.2.1, x33.2.2.2), (Option.some.inj h).symm, ?_⟩; exact ca_0
          · rintro ⟨v375, v376⟩ ho; have ho := ho.symm; subst ho; intro _; replace h := hK32; refine ⟨(k313, v375, v376), h, ltS m29, ?_⟩; exact ca_0
        · refine aEx ?_; refine aSR ?_; intro _; refine dr ?_; refine aRt ?_; obtain ⟨q67, h⟩ := grd_ok h; intro _; obtain rfl := inj1 h; exact ca_0
def M_l32_CertifyAbstract_L1 (a0 : GTask) (a1 : List Int) : Nat → Int → Option (Unit ⊕ Bool)
  | 0, _ => none
  | k34 + 1, v33 =>
    sel (decide (v33 < ((a1.map cI).length : Int)))
     (ix a1 v33 (fun y35 =>
       sel (decide (y35 < 0))
        (some (.inr true))
        (sel (decide (y35 ≥ ((a0.Vars.map cI).length : Int)))
          (some (.inr true))
          (sel (decide (v33 > 0))
            (ix a1 (IntKind.i64.wrap (v33 - 1)) (fun y36 =>
              sel (decide (y36 ≥ y35))
               (some (.inr true))
               (M_l32_CertifyAbstract_L1 a0 a1 k34 (IntKind.i64.wrap (v33 + 1)))))
            (M_l32_CertifyAbstract_L1 a0 a1 k34 (IntKind.i64.wrap (v33 + 1)))))))
     (some (.inl ()))
def M_l32_CertifyAbstract (g : Nat) (a0 : GTask) (a1 : List Int) (a2 : Int) : Option (Bool) :=
  ob1 (ob1 (M_l32_fit a0) (fun z11 =>
    sel (!z11)
     (ob1 (M_l32_awake g) (fun z18 =>
       some (.inr z18)))
     (ob1 (M_l32_single a0) (fun z12 =>
       sel (!z12)
        (ob1 (M_l32_awake g) (fun z17 =>
          some (.inr z17)))
        (sel (decide (((a0.Ops.map cGOp).length : Int) > 6))
          (ob1 (M_l32_awake g) (fun z16 =>
            some (.inr z16)))
          (sel (decide (((a1.map cI).length : Int) > 4))
            (ob1 (M_l32_awake g) (fun z15 =>
              some (.inr z15)))
            (ob1 (M_l32_awake g) (fun z13 =>
              sel (!z13)
               (ob1 (M_l32_awake g) (fun z14 =>
                 some (.inr z14)))
               (some (.inl ()))))))))) : Option (Unit ⊕ Bool))
   (osum
   (fun _ => ob1 (M_l32_CertifyAbstract_L1 a0 a1 ((((a1.map cI).length : Int)).toNat + 1) 0 : Option (Unit ⊕ Bool))
      (osum
      (fun _ => ob1 (M_r32_Abstract g a0 a1) (fun z37 =>
         ob1 (M_r32_Project a0 a1 a0.Init) (fun z38 =>
          ix z37 z38 (fun y39 =>
           ob1 (M_b_Clip a2 1 1000) (fun z40 =>
            ob2 (M_certify_FromTable g a0 a1 z37 z40) (fun z41 z42 =>
             erM z42
              (ob1 (M_checker_Verify g a0 z41 1048576) (fun z44 =>
                ob1 (M_b_Is z44 10) (fun z45 =>
                 sel z45
                  (some true)
                  (sel (decide (z40 > y39))
                    (ob1 (M_b_Is z44 20) (fun z46 =>
                      some z46))
                    (ob2 (M_certify_FromTable g a0 a1 z37 (-1)) (fun z47 z48 =>
                      erM z44
                       (erM z48
                         (sel (decide (y39 < 1125899906842624))
                           (some true)
                           (ob1 (M_checker_Verify g a0 z47 1048576) (fun z51 =>
                             erM z51
                              (some true)
                              (fun _ => some false))))
                         (fun _ => some false))
                       (fun _ => some false)))))))
              (fun _ => some false)))))))
      (fun r27 => some r27)))
   (fun r9 => some r9))
theorem A_l32_CertifyAbstract (g : Nat) (a0 : GTask) (a1 : List Int) (a2 : Int) {r1 : Bool} (h : M_l32_CertifyAbstract g a0 a1 a2 = some r1) : ACall cx 8 [.agg [.sl 1 (a0.Vars.map cI), .sl 1 (a0.Init.map cI), .sl 2 (a0.Goal.map cF), .sl 4 (a0.Ops.map cGOp)], .sl 1 (a1.map cI), .c (.int .i64 a2)] (.c (.bool r1)) := by
  refine aOf Tryz.func8 rfl (by decide) rfl (Nat.le_of_ble_eq_true rfl) ?_; intro _; unfold M_l32_CertifyAbstract at h; refine aSR ?_; intro _; refine dr ?_; obtain ⟨o1, h, hK2⟩ := ob1_ok h; refine awp_cut (α := Unit) (fun _ => mkS 125 [(1, .sl 1 (a1.map cI)), (2, .c (.int .i64 a2)), (3, .ptr 3 0 0 0)] [(3, ⟨26, 4, true, [[.sl 1 (a0.Vars.map cI), .sl 1 (a0.Init.map cI), .sl 2 (a0.Goal.map cF), .sl 4 (a0.Ops.map cGOp)]]⟩)]) (fun v => o1 = (.inl v)) ?_ ?_
  · refine aSR ?_; intro _; obtain ⟨z11, u3, h⟩ := ob1_ok h; refine cl rfl (A_l32_fit a0 u3) ?_; intro _; refine spf h (fun c4 h => ?_) (fun c4 h => ?_)
    · intro _; obtain ⟨z12, u5, h⟩ := ob1_ok h; refine cl rfl (A_l32_single a0 u5) ?_; intro _; refine spf h (fun c6 h => ?_) (fun c6 h => ?_)
      · intro _; refine spf h (fun c7 h => ?_) (fun c7 h => ?_)
        · intro _; refine spf h (fun c8 h => ?_) (fun c8 h => ?_)
          · intro _; obtain ⟨z13, u9, h⟩ := ob1_ok h; refine cl rfl (A_l32_awake g u9) ?_; intro _; refine dr ?_; refine aCd ?_; intro _; refine spl h (fun c10 h => ?_) (fun c10 h => ?_)
            · refine aSR ?_; intro _; obtain ⟨z14, u11, h⟩ := ob1_ok h; refine cl rfl (A_l32_awake g u11) ?_; intro _; refine dr ?_; refine aRt ?_; have j12 := Option.some.inj h; subst j12; replace h := (osum_r hK2); intro _; obtain rfl := inj1 h; exact ca_0
            · refine aSk ?_; refine ⟨(), (Option.some.inj h).symm, ?_⟩; exact ca_0
          · intro _; refine dr ?_; refine aCd ?_; intro _; refine litT ?_; refine aSR ?_; intro _; obtain ⟨z15, u13, h⟩ := ob1_ok h; refine cl rfl (A_l32_awake g u13) ?_; intro _; refine dr ?_; refine aRt ?_; have j14 := Option.some.inj h; subst j14; replace h := (osum_r hK2); intro _; obtain rfl := inj1 h; exact ca_0
        · intro _; refine dr ?_; refine aCd ?_; intro _; refine litT ?_; refine aSR ?_; intro _; obtain ⟨z16, u15, h⟩ := ob1_ok h; refine cl rfl (A_l32_awake g u15) ?_; intro _; refine dr ?_; refine aRt ?_; have j16 := Option.some.inj h; subst j16; replace h := (osum_r hK2); intro _; obtain rfl := inj1 h; exact ca_0
      · intro _; refine dr ?_; refine aCd ?_; intro _; refine litT ?_; refine aSR ?_; intro _; obtain ⟨z17, u17, h⟩ := ob1_ok h; refine cl rfl (A_l32_awake g u17) ?_; intro _; refine dr ?_; refine aRt ?_; have j18 := Option.some.inj h; subst j18; replace h := (osum_r hK2); intro _; obtain rfl := inj1 h; exact ca_0
    · intro _; refine dr ?_; refine aCd ?_; intro _; refine litT ?_; refine aSR ?_; intro _; obtain ⟨z18, u19, h⟩ := ob1_ok h; refine cl rfl (A_l32_awake g u19) ?_; intro _; refine dr ?_; refine aRt ?_; have j20 := Option.some.inj h; subst j20; replace h := (osum_r hK2); intro _; obtain rfl := inj1 h; exact ca_0
  · rintro _ ho; have ho := ho.symm; subst ho; intro _; replace h := (osum_l hK2); obtain ⟨o21, h, hK22⟩ := ob1_ok h; refine awp_cut (α := Unit) (fun _ => mkS 125 [(1, .sl 1 (a1.map cI)), (2, .c (.int .i64 a2)), (3, .ptr 3 0 0 0)] [(3, ⟨26, 4, true, [[.sl 1 (a0.Vars.map cI), .sl 1 (a0.Init.map cI), .sl 2 (a0.Goal.map cF), .sl 4 (a0.Ops.map cGOp)]]⟩)]) (fun v => o21 = (.inl v)) ?_ ?_
    · refine aSR ?_; intro _; refine dr ?_; refine aBk ?_; refine awp_loop (α := Nat × Int) (fun x => mkS 125 [(1, .sl 1 (a1.map cI)), (2, .c (.int .i64 a2)), (3, .ptr 3 0 0 0), (39, .sl 1 (a1.map cI)), (40, .c (.int .i64 ((a1.map cI).length : Int))), (41, .c (.int .i64 x.2))] [(3, ⟨26, 4, true, [[.sl 1 (a0.Vars.map cI), .sl 1 (a0.Init.map cI), .sl 2 (a0.Goal.map cF), .sl 4 (a0.Ops.map cGOp)]]⟩)]) (fun x => M_l32_CertifyAbstract_L1 a0 a1 x.1 x.2 = some o21) (fun x => x.1) ((((a1.map cI).length : Int)).toNat + 1, 0) h ?_ ?_
      · exact ca_0
      · intro x23 h; intro _; obtain ⟨k34, m24, h⟩ := succ_of (f := fun n => M_l32_CertifyAbstract_L1 a0 a1 n x23.2) rfl h; replace h : M_l32_CertifyAbstract_L1 a0 a1 (k34 + 1) x23.2 = some o21 := h; rw [M_l32_CertifyAbstract_L1] at h; refine aSR ?_; intro _; refine dr ?_; refine aSq ?_; refine aCd ?_; intro _; refine spl h (fun c25 h => ?_) (fun c25 h => ?_)
        · refine aSk ?_; refine aSq ?_; refine aBk ?_; refine aSR ?_; intro _; obtain ⟨y35, w26, q27, h⟩ := ix_ok h; refine Exists.intro (cI y35) (And.intro (map_at' w26) ?_); intro _; refine pr ?_; refine dr ?_; refine aSR ?_; intro _; refine spf h (fun c28 h => ?_) (fun c28 h => ?_)
          · intro _; refine spf h (fun c29 h => ?_) (fun c29 h => ?_)
            · intro _; refine spl h (fun c30 h => ?_) (fun c30 h => ?_)
              · intro _; obtain ⟨y36, w31, q32, h⟩ := ix_ok h; refine Exists.intro (cI y36) (And.intro (map_at' w31) ?_); intro _; refine pr ?_; refine dr ?_; refine aCd ?_; intro _; refine spl h (fun c33 h => ?_) (fun c33 h => ?_)
                · refine aSR ?_; intro _; refine dr ?_; refine aRt ?_; have j34 := Option.some.inj h; subst j34; replace h := (osum_r hK22); intro _; obtain rfl := inj1 h; exact ca_0
                · refine aSk ?_; refine aRg ?_; intro _; refine dr ?_; refine ⟨(k34, (IntKind.i64.wrap (x23.2 + 1))), h, ltS m24, ?_⟩; exact ca_0
              · intro _; refine dr ?_; refine aCd ?_; intro _; refine litF ?_; refine aSk ?_; refine aRg ?_; intro _; refine dr ?_; refine ⟨(k34, (IntKind.i64.wrap (x23.2 + 1))), h, ltS m24, ?_⟩; exact ca_0
            · intro _; refine dr ?_; refine aCd ?_; intro _; refine litT ?_; refine aSR ?_; intro _; refine dr ?_; refine aRt ?_; have j35 := Option.some.inj h; subst j35; replace h := (osum_r hK22); intro _; obtain rfl := inj1 h; exact ca_0
          · intro _; refine dr ?_; refine aCd ?_; intro _; refine litT ?_; refine aSR ?_; intro _; refine dr ?_; refine aRt ?_; have j36 := Option.some.inj h; subst j36; replace h := (osum_r hK22); intro _; obtain rfl := inj1 h; exact ca_0
        · refine aEx ?_; refine ⟨(), (Option.some.inj h).symm, ?_⟩; exact ca_0
    · rintro _ ho; have ho := ho.symm; subst ho; intro _; replace h := (osum_l hK22); refine aSR ?_; intro _; obtain ⟨z37, u37, h⟩ := ob1_ok h; refine cl rfl (A_r32_Abstract g a0 a1 u37) ?_; intro _; refine dr ?_; refine aSR ?_; intro _; obtain ⟨z38, u38, h⟩ := ob1_ok h; refine cl rfl (A_r32_Project a0 a1 a0.Init u38) ?_; intro _; obtain ⟨y39, w39, q40, h⟩ := ix_ok h; refine Exists.intro (cI y39) (And.intro (map_at' w39) ?_); intro _; refine pr ?_; refine dr ?_; refine aSR ?_; intro _; obtain ⟨z40, u41, h⟩ := ob1_ok h; refine cl rfl (A_b_Clip a2 1 1000 u41) ?_; intro _; refine dr ?_; refine aSR ?_; intro _; obtain ⟨z41, z42, u42, h⟩ := ob2_ok h; refine cl rfl (A_certify_FromTable g a0 a1 z37 z40 u42) ?_; intro _; refine dr ?_; refine aSq ?_; refine aSq ?_; rcases z42 with _ | e43
      · replace h := erM_nil h; refine aRg ?_; intro _; refine dr ?_; refine aCd ?_; intro _; refine litF ?_; refine aSk ?_; refine aSR ?_; intro _; obtain ⟨z44, u43, h⟩ := ob1_ok h; refine cl rfl (A_checker_Verify g a0 z41 1048576 u43) ?_; intro _; refine dr ?_; refine aSq ?_; refine aSR ?_; intro _; obtain ⟨z45, u44, h⟩ := ob1_ok h; refine cl rfl (A_b_Is z44 10 u44) ?_; intro _; refine dr ?_; refine aCd ?_; intro _; refine spl h (fun c45 h => ?_) (fun c45 h => ?_)
        · refine aSR ?_; intro _; refine dr ?_; refine aRt ?_; intro _; obtain rfl := inj1 h; exact ca_0
        · refine aSk ?_; refine aSq ?_; refine aSR ?_; intro _; refine dr ?_; refine aCd ?_; intro _; refine spl h (fun c46 h => ?_) (fun c46 h => ?_)
          · refine aSR ?_; intro _; obtain ⟨z46, u47, h⟩ := ob1_ok h; refine cl rfl (A_b_Is z44 20 u47) ?_; intro _; refine dr ?_; refine aRt ?_; intro _; obtain rfl := inj1 h; exact ca_0
          · refine aSk ?_; refine aSR ?_; intro _; obtain ⟨z47, z48, u48, h⟩ := ob2_ok h; refine cl rfl (A_certify_FromTable g a0 a1 z37 (-1) u48) ?_; intro _; refine dr ?_; refine aSq ?_; rcases z44 with _ | e49
            · replace h := erM_nil h; rcases z48 with _ | e50
              · replace h := erM_nil h; refine aRg ?_; intro _; refine litT ?_; intro _; refine litT ?_; intro _; refine spf h (fun c49 h => ?_) (fun c49 h => ?_)
                · intro _; obtain ⟨z51, u50, h⟩ := ob1_ok h; refine cl rfl (A_checker_Verify g a0 z47 1048576 u50) ?_; rcases z51 with _ | e52
                  · replace h := erM_nil h; intro _; refine dr ?_; refine aRt ?_; intro _; obtain rfl := inj1 h; exact ca_0
                  · replace h := erM_no h; intro _; refine dr ?_; refine aRt ?_; intro _; obtain rfl := inj1 h; exact ca_0
                · intro _; refine dr ?_; refine aRt ?_; intro _; obtain rfl := inj1 h; exact ca_0
              · replace h := erM_no h; refine aRg ?_; intro _; refine litT ?_; intro _; refine litF ?_; intro _; refine dr ?_; refine aRt ?_; intro _; obtain rfl := inj1 h; exact ca_0
            · replace h := erM_no h; refine aRg ?_; intro _; refine litF ?_; intro _; refine dr ?_; refine aRt ?_; intro _; obtain rfl := inj1 h; exact ca_0
      · replace h := erM_no h; refine aRg ?_; intro _; refine dr ?_; refine aCd ?_; intro _; refine litT ?_; refine aSR ?_; intro _; refine dr ?_; refine aRt ?_; intro _; obtain rfl := inj1 h; exact ca_0
end Go.Proofs.YtohjegemooakpaaGreat.Am
namespace Go.Proofs.YtohjegemooakpaaGreat.Am
def M_l32_single_L1_B (_ : GOp) (_y123 : GEffect) (_ : Int) : ((Int)) → (((Int)) → Option (Int)) → Option (Int) := fun v120 rc => ixv _y123 (fun y123 =>
       sel (decide (((y123.When.map cF).length : Int) > 0))
        (rc ((IntKind.i64.wrap (v120 + 1))))
        (rc (v120)))
def M_l32_single_L1_E (_ : GOp) : ((Int)) → Option (Int) := fun v120 => some v120
theorem M_l32_single_L1_eq (y105 : GOp) (v120 : Int) (hl : y105.Effs.length < 9223372036854775807) : M_l32_single_L1 y105 (((y105.Effs.map cGEffect).length : Int).toNat + 1) v120 0 = Rg (M_l32_single_L1_B y105) (M_l32_single_L1_E y105) y105.Effs 0 v120 := rg_e1 (L := fun k i v120 => M_l32_single_L1 y105 k v120 i) hl (fun _ _ _ => rfl) v120
def M_l32_single_L2_B (_ : GTask) (_y105 : GOp) (_ : Int) : Unit → (Unit → Option (Bool)) → Option (Bool) := fun _ rc => ob1 (ixv _y105 (fun y105 =>
        ob1 (M_l32_single_L1 y105 ((((y105.Effs.map cGEffect).length : Int)).toNat + 1) 0 0 : Option (Int))
         (fun v114 => sel (decide (v114 > 1))
            (some (.inr false))
            (some (.inl ())))) : Option (Unit ⊕ Bool))
       (osum
       (fun _ => rc ())
       (fun r103 => some r103))
def M_l32_single_L2_E (_ : GTask) : Unit → Option (Bool) := fun _ => some true
theorem M_l32_single_L2_eq (a0 : GTask)  (hl : a0.Ops.length < 9223372036854775807) : M_l32_single_L2 a0 (((a0.Ops.map cGOp).length : Int).toNat + 1) 0 = Rg (M_l32_single_L2_B a0) (M_l32_single_L2_E a0) a0.Ops 0 () := rg_e2 (L := fun k i _ => M_l32_single_L2 a0 k i) hl (fun k n p y hy h1 h2 => by first | (simp only [M_l32_single_L2, M_l32_single_L2_B, List.length_map, decide_lt h1, sel, ix_at hy, ixv, h2]; done) | (simp only [List.length_map] at h1 hy; (simp only [M_l32_single_L2, M_l32_single_L2_B, List.length_map, decide_lt h1, sel, ix_at hy, ixv, h2]; done))) (fun k p => by simp only [M_l32_single_L2, M_l32_single_L2_E, List.length_map, decide_ge, sel]) ()
def M_r32_goal_L1_B (_ : List Int) (a2 : List Int) (y60 : Fact) (_y68 : Int) (_ : Int) : Unit → (Unit → Option (Unit ⊕ Bool)) → Option (Unit ⊕ Bool) := fun _ rc => ixv _y68 (fun y68 =>
       sel (y60.1 == y68)
        (ix a2 y68 (fun y69 =>
          sel (y69 != y60.2)
           (some (.inr false))
           (rc ())))
        (rc ()))
def M_r32_goal_L1_E (_ : List Int) (_ : List Int) (_ : Fact) : Unit → Option (Unit ⊕ Bool) := fun _ => some (.inl ())
theorem M_r32_goal_L1_eq (a1 : List Int) (a2 : List Int) (y60 : Fact)  (hl : a1.length < 9223372036854775807) : M_r32_goal_L1 a1 a2 y60 (((a1.map cI).length : Int).toNat + 1) 0 = Rg (M_r32_goal_L1_B a1 a2 y60) (M_r32_goal_L1_E a1 a2 y60) a1 0 () := rg_e1 (L := fun k i _ => M_r32_goal_L1 a1 a2 y60 k i) hl (fun _ _ _ => rfl) ()
def M_r32_goal_L2_B (_ : GTask) (a1 : List Int) (a2 : List Int) (_y60 : Fact) (_ : Int) : Unit → (Unit → Option (Bool)) → Option (Bool) := fun _ rc => ob1 (ixv _y60 (fun y60 =>
        M_r32_goal_L1 a1 a2 y60 ((((a1.map cI).length : Int)).toNat + 1) 0) : Option (Unit ⊕ Bool))
       (osum
       (fun _ => rc ())
       (fun r58 => some r58))
def M_r32_goal_L2_E (_ : GTask) (_ : List Int) (_ : List Int) : Unit → Option (Bool) := fun _ => some true
theorem M_r32_goal_L2_eq (a0 : GTask) (a1 : List Int) (a2 : List Int)  (hl : a0.Goal.length < 9223372036854775807) : M_r32_goal_L2 a0 a1 a2 (((a0.Goal.map cF).length : Int).toNat + 1) 0 = Rg (M_r32_goal_L2_B a0 a1 a2) (M_r32_goal_L2_E a0 a1 a2) a0.Goal 0 () := rg_e2 (L := fun k i _ => M_r32_goal_L2 a0 a1 a2 k i) hl (fun k n p y hy h1 h2 => by first | (simp only [M_r32_goal_L2, M_r32_goal_L2_B, List.length_map, decide_lt h1, sel, ix_at hy, ixv, h2]; done) | (simp only [List.length_map] at h1 hy; (simp only [M_r32_goal_L2, M_r32_goal_L2_B, List.length_map, decide_lt h1, sel, ix_at hy, ixv, h2]; done))) (fun k p => by simp only [M_r32_goal_L2, M_r32_goal_L2_E, List.length_map, decide_ge, sel]) ()
def M_r32_Project_L1_B (a0 : GTask) (_ : List Int) (a2 : List Int) (_y12 : Int) (_ : Int) : ((Int)) → (((Int)) → Option (Int)) → Option (Int) := fun v9 rc => ixv _y12 (fun y12 =>
       ix a0.Vars y12 (fun y13 =>
        ix a2 y12 (fun y14 =>
         rc ((IntKind.i64.wrap ((IntKind.i64.wrap (v9 * y13)) + y14))))))
def M_r32_Project_L1_E (_ : GTask) (_ : List Int) (_ : List Int) : ((Int)) → Option (Int) := fun v9 => some v9
theorem M_r32_Project_L1_eq (a0 : GTask) (a1 : List Int) (a2 : List Int) (v9 : Int) (hl : a1.length < 9223372036854775807) : M_r32_Project_L1 a0 a1 a2 (((a1.map cI).length : Int).toNat + 1) v9 0 = Rg (M_r32_Project_L1_B a0 a1 a2) (M_r32_Project_L1_E a0 a1 a2) a1 0 v9 := rg_e1 (L := fun k i v9 => M_r32_Project_L1 a0 a1 a2 k v9 i) hl (fun _ _ _ => rfl) v9
def M_r32_Abstract_L1_B (_ : Int) (v18 : Int) : ((List Int)) → (((List Int)) → Option (List Int)) → Option (List Int) := fun v19 rc => ixn v19 ((v18).toNat) (fun _ =>
       grd (0 ≤ v18) (grd (v18 < ((v19.length : Nat) : Int)) (rc ((v19.set ((v18).toNat) 1125899906842624)))))
def M_r32_Abstract_L1_E (_ : Int) : ((List Int)) → Option (List Int) := fun v19 => some v19
theorem M_r32_Abstract_L1_eq (z3 : Int) (v19 : List Int) {m : Nat} (hm : ((z3.toNat : Nat) : Int) = (m : Int)) (hl : m < 9223372036854775807) : M_r32_Abstract_L1 z3 ((((z3.toNat : Nat) : Int)).toNat + 1) 0 v19 = Rn (M_r32_Abstract_L1_B z3) (M_r32_Abstract_L1_E z3) m 0 v19 := rn_e (L := fun k i v19 => M_r32_Abstract_L1 z3 k i v19) hm hl (fun _ _ _ => rfl) v19
def M_r32_Abstract_L2_B (a0 : GTask) (a1 : List Int) (_ : List (List Int)) (_y54 : List Int) (_ : Int) : ((List Int)) → (((List Int)) → Option (List Int)) → Option (List Int) := fun v52 rc => ixv _y54 (fun y54 =>
       ob1 (M_r32_goal a0 a1 y54) (fun z55 =>
        sel z55
         (ob1 (M_r32_Project a0 a1 y54) (fun z56 =>
           ixn v52 ((z56).toNat) (fun _ =>
            grd (0 ≤ z56) (grd (z56 < ((v52.length : Nat) : Int)) (rc ((v52.set ((z56).toNat) 0)))))))
         (rc (v52))))
def M_r32_Abstract_L2_E (_ : GTask) (_ : List Int) (_ : List (List Int)) : ((List Int)) → Option (List Int) := fun v52 => some v52
theorem M_r32_Abstract_L2_eq (a0 : GTask) (a1 : List Int) (z1 : List (List Int)) (v52 : List Int) (hl : z1.length < 9223372036854775807) : M_r32_Abstract_L2 a0 a1 z1 (((z1.map cL_cI).length : Int).toNat + 1) 0 v52 = Rg (M_r32_Abstract_L2_B a0 a1 z1) (M_r32_Abstract_L2_E a0 a1 z1) z1 0 v52 := rg_e1 (L := fun k i v52 => M_r32_Abstract_L2 a0 a1 z1 k i v52) hl (fun _ _ _ => rfl) v52
def M_r32_Abstract_L3_B (a0 : GTask) (a1 : List Int) (z1 : List (List Int)) (_ : List GEdge) (_y421 : GEdge) (_ : Int) : ((Bool) × (List Int)) → (((Bool) × (List Int)) → Option (Bool × (List Int))) → Option (Bool × (List Int)) := fun (v417, v419) rc => ixv _y421 (fun y421 =>
       ix z1 y421.From (fun y422 =>
        ob1 (M_r32_Project a0 a1 y422) (fun z423 =>
         ix z1 y421.To (fun y424 =>
          ob1 (M_r32_Project a0 a1 y424) (fun z425 =>
           ob1 (ixn v419 ((z425).toNat) (fun y432 =>
             sel (decide (y432 < 1125899906842624))
              (ixn v419 ((z425).toNat) (fun y433 =>
                ix a0.Ops y421.Op (fun y434 =>
                 ixn v419 ((z423).toNat) (fun y435 =>
                  grd (0 ≤ z425) (grd (z425 < ((v419.length : Nat) : Int)) (grd (0 ≤ z423) (grd (z423 < ((v419.length : Nat) : Int)) (some (decide ((IntKind.i64.wrap (y433 + y434.Cost)) < y435))))))))))
              (grd (0 ≤ z425) (grd (z425 < ((v419.length : Nat) : Int)) (some false)))) : Option (Bool))
            (fun v430 => sel v430
               (ixn v419 ((z425).toNat) (fun y436 =>
                 ix a0.Ops y421.Op (fun y437 =>
                  ixn v419 ((z423).toNat) (fun _ =>
                   grd (0 ≤ z425) (grd (z425 < ((v419.length : Nat) : Int)) (grd (0 ≤ z423) (grd (z423 < ((v419.length : Nat) : Int)) (rc (true, (v419.set ((z423).toNat) (IntKind.i64.wrap (y436 + y437.Cost))))))))))))
               (rc (v417, v419))))))))
def M_r32_Abstract_L3_E (_ : GTask) (_ : List Int) (_ : List (List Int)) (_ : List GEdge) : ((Bool) × (List Int)) → Option (Bool × (List Int)) := fun (v417, v419) => some (v417, v419)
theorem M_r32_Abstract_L3_eq (a0 : GTask) (a1 : List Int) (z1 : List (List Int)) (z58 : List GEdge) (v417 : Bool) (v419 : List Int) (hl : z58.length < 9223372036854775807) : M_r32_Abstract_L3 a0 a1 z1 z58 (((z58.map cGEdge).length : Int).toNat + 1) v417 0 v419 = Rg (M_r32_Abstract_L3_B a0 a1 z1 z58) (M_r32_Abstract_L3_E a0 a1 z1 z58) z58 0 (v417, v419) := rg_e1 (L := fun k i p => match p with | (v417, v419) => M_r32_Abstract_L3 a0 a1 z1 z58 k v417 i v419) hl (fun _ _ ⟨_, _⟩ => rfl) (v417, v419)
def M_l32_CertifyAbstract_L1_B (a0 : GTask) (a1 : List Int) (_y35 : Int) (v33 : Int) : Unit → (Unit → Option (Unit ⊕ Bool)) → Option (Unit ⊕ Bool) := fun _ rc => ixv _y35 (fun y35 =>
       sel (decide (y35 < 0))
        (some (.inr true))
        (sel (decide (y35 ≥ ((a0.Vars.map cI).length : Int)))
          (some (.inr true))
          (sel (decide (v33 > 0))
            (ix a1 (IntKind.i64.wrap (v33 - 1)) (fun y36 =>
              sel (decide (y36 ≥ y35))
               (some (.inr true))
               (rc ())))
            (rc ()))))
def M_l32_CertifyAbstract_L1_E (_ : GTask) (_ : List Int) : Unit → Option (Unit ⊕ Bool) := fun _ => some (.inl ())
theorem M_l32_CertifyAbstract_L1_eq (a0 : GTask) (a1 : List Int)  (hl : a1.length < 9223372036854775807) : M_l32_CertifyAbstract_L1 a0 a1 (((a1.map cI).length : Int).toNat + 1) 0 = Rg (M_l32_CertifyAbstract_L1_B a0 a1) (M_l32_CertifyAbstract_L1_E a0 a1) a1 0 () := rg_e1 (L := fun k i _ => M_l32_CertifyAbstract_L1 a0 a1 k i) hl (fun _ _ _ => rfl) ()
end Go.Proofs.YtohjegemooakpaaGreat.Am
namespace Go.Proofs.YtohjegemooakpaaGreat.Am
open Go.RowKit
def pfF (v s : List Int) : List Int → Int → Int
  | [], a => a
  | y :: r, a => pfF v s r (a * v.getD y.toNat 0 + s.getD y.toNat 0)
theorem pf_snoc (v s : List Int) (y : Int) : ∀ (r : List Int) (a : Int), pfF v s (r ++ [y]) a = pfF v s r a * v.getD y.toNat 0 + s.getD y.toNat 0
  | [], _ => rfl
  | x :: r, a => by simp only [List.cons_append, pfF, pf_snoc v s y r]
def InS (v s p : List Int) : Prop := ∀ y ∈ p, 0 ≤ s.getD y.toNat 0 ∧ s.getD y.toNat 0 < v.getD y.toNat 0
theorem InS.tail {v s : List Int} {y : Int} {r : List Int} (h : InS v s (y :: r)) : InS v s r := fun u hu => h u (List.mem_cons_of_mem _ hu)
theorem pf_bound {v s : List Int} : ∀ (r : List Int) (a : Int), InS v s r → 0 ≤ a → 0 ≤ pfF v s r a ∧ pfF v s r a + 1 ≤ (a + 1) * ((prodN (szs v r) : Nat) : Int)
  | [], a, _, h => by
    show 0 ≤ a ∧ a + 1 ≤ (a + 1) * ((1 : Nat) : Int)
    omega
  | y :: r, a, h, ha => by
    obtain ⟨h0, h1⟩ := h y (List.mem_cons_self ..)
    obtain ⟨k, hk⟩ : ∃ k : Nat, v.getD y.toNat 0 = k := ⟨(v.getD y.toNat 0).toNat, by omega⟩
    have hak : 0 ≤ a * (k : Int) := Int.mul_nonneg ha (by omega)
    have hb : (a + 1) * (k : Int) = a * (k : Int) + k := by rw [Int.add_mul, Int.one_mul]
    rw [pfF, szs_cons, prodN, hk, Int.toNat_natCast, Int.natCast_mul, ← Int.mul_assoc]
    rw [hk] at h1
    obtain ⟨g0, g1⟩ := pf_bound r (a * (k : Int) + s.getD y.toNat 0) h.tail (by omega)
    exact ⟨g0, Int.le_trans g1 (Int.mul_le_mul_of_nonneg_right (by omega) (Int.natCast_nonneg _))⟩
theorem combR_pf {v s : List Int} : ∀ (q : List Int), InS v s q → combR v q (pfF v s q.reverse 0).toNat = q.map fun y => (y, s.getD y.toNat 0)
  | [], _ => rfl
  | y :: q, h => by
    obtain ⟨h0, h1⟩ := h y (List.mem_cons_self ..)
    obtain ⟨k, hk⟩ : ∃ k : Nat, v.getD y.toNat 0 = k := ⟨(v.getD y.toNat 0).toNat, by omega⟩
    have hb := (pf_bound q.reverse 0 (fun u hu => h.tail u (List.mem_reverse.1 hu)) (Int.le_refl 0)).1
    obtain ⟨P, hP⟩ : ∃ P : Nat, pfF v s q.reverse 0 = P := ⟨(pfF v s q.reverse 0).toNat, by omega⟩
    obtain ⟨x, hx⟩ : ∃ x : Nat, s.getD y.toNat 0 = x := ⟨(s.getD y.toNat 0).toNat, by omega⟩
    have e : (pfF v s (y :: q).reverse 0).toNat = k * P + x := by
      rw [List.reverse_cons, pf_snoc, hP, hk, hx, ← Int.natCast_mul, ← Int.natCast_add, Int.toNat_natCast, Nat.mul_comm]
    have ih := combR_pf q h.tail
    rw [hP, Int.toNat_natCast] at ih
    rw [hk, hx] at h1
    rw [combR, e, hk, Int.toNat_natCast, List.map_cons, hx, Nat.mul_add_mod, Nat.mod_eq_of_lt (by omega), Nat.mul_add_div (by omega), Nat.div_eq_of_lt (by omega), Nat.add_zero, ih]
theorem combF_pf {v s p : List Int} (h : InS v s p) : combF v p (pfF v s p 0).toNat = p.map fun y => (y, s.getD y.toNat 0) := by
  have := combR_pf p.reverse (fun u hu => h u (List.mem_reverse.1 hu))
  rw [List.reverse_reverse] at this
  rw [combF, this, List.map_reverse, List.reverse_reverse]
theorem prodN_app : ∀ (a b : List Int), prodN (a ++ b) = prodN a * prodN b
  | [], b => by rw [List.nil_append, prodN, Nat.one_mul]
  | k :: a, b => by rw [List.cons_append, prodN, prodN, prodN_app a b, Nat.mul_assoc]
theorem pf_combR {v s : List Int} : ∀ (q : List Int) (n : Nat), (∀ y ∈ q, 1 ≤ v.getD y.toNat 0) → n < prodN (szs v q.reverse) → (∀ f ∈ combR v q n, s.getD f.1.toNat 0 = f.2) → pfF v s q.reverse 0 = n
  | [], n, _, hn, _ => by
    have : n < 1 := hn
    show (0 : Int) = n
    omega
  | y :: q, n, hk1, hn, h => by
    have hky := hk1 y (List.mem_cons_self ..)
    obtain ⟨k, hk⟩ : ∃ k : Nat, v.getD y.toNat 0 = k := ⟨(v.getD y.toNat 0).toNat, by omega⟩
    have hx := h _ (List.mem_cons_self ..)
    have hp1 : prodN (szs v [y]) = k := by
      show (v.getD y.toNat 0).toNat * 1 = k
      omega
    rw [List.reverse_cons, szs_app, prodN_app, hp1, Nat.mul_comm] at hn
    have ih := pf_combR q (n / k) (fun u hu => hk1 u (List.mem_cons_of_mem _ hu)) (Nat.div_lt_of_lt_mul hn) (fun f hf => h f (by rw [combR, hk, Int.toNat_natCast]; exact List.mem_cons_of_mem _ hf))
    simp only [hk, Int.toNat_natCast] at hx
    rw [List.reverse_cons, pf_snoc, ih, hk, hx, ← Int.natCast_mul, ← Int.natCast_add, Nat.div_add_mod']
theorem combR_rng {v : List Int} : ∀ (q : List Int) (n : Nat), (∀ y ∈ q, 1 ≤ v.getD y.toNat 0) → ∀ f ∈ combR v q n, f.1 ∈ q ∧ 0 ≤ f.2 ∧ f.2 < v.getD f.1.toNat 0
  | [], _, _, f, hf => by cases hf
  | y :: q, n, hk, f, hf => by
    rw [combR] at hf
    rcases List.mem_cons.1 hf with rfl | hf
    · have := hk y (List.mem_cons_self ..)
      have hm : n % (v.getD y.toNat 0).toNat < (v.getD y.toNat 0).toNat := Nat.mod_lt _ (by omega)
      refine ⟨List.mem_cons_self .., Int.natCast_nonneg _, ?_⟩
      show ((n % (v.getD y.toNat 0).toNat : Nat) : Int) < v.getD y.toNat 0
      omega
    · obtain ⟨h1, h2⟩ := combR_rng q _ (fun u hu => hk u (List.mem_cons_of_mem _ hu)) f hf
      exact ⟨List.mem_cons_of_mem _ h1, h2⟩
theorem combR_fst (v : List Int) : ∀ (q : List Int) (n : Nat), (combR v q n).map (·.1) = q
  | [], _ => rfl
  | y :: q, n => by rw [combR, List.map_cons, combR_fst v q]
theorem combF_fst (v p : List Int) (n : Nat) : (combF v p n).map (·.1) = p := by rw [combF, List.map_reverse, combR_fst, List.reverse_reverse]
theorem prop_asc {v : List Int} : ∀ (l : List Fact) (last : Int), ascR v.length last (l.map (·.1)) = true → (∀ f ∈ l, 0 ≤ f.2 ∧ f.2 < v.getD f.1.toNat 0) → propF v last l = true
  | [], _, _, _ => rfl
  | f :: l, last, h, hr => by
    rw [List.map_cons, ascR, Bool.and_eq_true, Bool.and_eq_true, decide_eq_true_iff, decide_eq_true_iff] at h
    obtain ⟨h0, h1⟩ := hr f (List.mem_cons_self ..)
    rw [propF, Bool.and_eq_true, decide_eq_true_iff]
    exact ⟨⟨h.1, h.2.1, h0, h1⟩, prop_asc l f.1 h.2.2 fun u hu => hr u (List.mem_cons_of_mem _ hu)⟩
structure Pat (v p : List Int) : Prop where
  asc : ascR v.length (-1) p = true
  four : p.length ≤ 4
  dom : ∀ k ∈ v, 2 ≤ k ∧ k ≤ 4
section
variable {v p : List Int} (hp : Pat v p)
include hp
theorem Pat.mem {y : Int} (hy : y ∈ p) : 0 ≤ y ∧ y < v.length := ascR_mem (by omega) hp.asc y hy
theorem Pat.get {y : Int} (hy : y ∈ p) : 2 ≤ v.getD y.toNat 0 ∧ v.getD y.toNat 0 ≤ 4 := hp.dom _ (getD_mem (hp.mem hy).1 (hp.mem hy).2)
theorem Pat.prop (n : Nat) : propF v (-1) (combF v p n) = true := by
  refine prop_asc _ _ (by rw [combF_fst]; exact hp.asc) fun f hf => ?_
  exact (combR_rng p.reverse n (fun y hy => by have := hp.get (List.mem_reverse.1 hy); omega) f (List.mem_reverse.1 hf)).2
theorem Pat.ins {s : List Int} (hs : stateF v s = true) : InS v s p := fun y hy => by
  obtain ⟨h0, h1⟩ := hp.mem hy
  exact (stateF_st hs).rng y.toNat (by omega)
theorem Pat.holds {s : List Int} (hs : stateF v s = true) {n : Nat} (hn : n < prodN (szs v p)) : holdsF s (combF v p n) = true ↔ pfF v s p 0 = n := by
  have hl := (stateF_st hs).len
  constructor
  · intro h
    have := pf_combR (v := v) (s := s) p.reverse n (fun y hy => by have := hp.get (List.mem_reverse.1 hy); omega) (by rw [List.reverse_reverse]; exact hn) (fun f hf => (hold1_iff.1 (holdsF_iff.1 h f (by rw [combF]; exact List.mem_reverse.2 hf))).2.2)
    rw [List.reverse_reverse] at this
    exact this
  · intro h
    have hc := combF_pf (hp.ins hs)
    rw [h, Int.toNat_natCast] at hc
    rw [hc, holdsF_iff]
    intro f hf
    obtain ⟨y, hy, rfl⟩ := List.mem_map.1 hf
    obtain ⟨h0, h1⟩ := hp.mem hy
    exact hold1_iff.2 ⟨h0, by show y < s.length; omega, rfl⟩
theorem Pat.pf {s : List Int} (hs : stateF v s = true) : ∃ k : Nat, pfF v s p 0 = k ∧ k < prodN (szs v p) := by
  obtain ⟨h0, h1⟩ := pf_bound p 0 (hp.ins hs) (Int.le_refl 0)
  exact ⟨(pfF v s p 0).toNat, by omega, by omega⟩
theorem Pat.sz {k : Int} (hk : k ∈ szs v p) : 2 ≤ k ∧ k ≤ 4 := by
  obtain ⟨y, hy, rfl⟩ := List.mem_map.1 hk
  exact hp.get hy
end
theorem prodN_sub : ∀ {a b : List Int}, a.Sublist b → (∀ k ∈ b, 1 ≤ k) → prodN a ≤ prodN b := by
  intro a b h
  induction h with
  | slnil => intro _; exact Nat.le_refl _
  | cons k h ih =>
    intro hk
    have h1 := hk k (List.mem_cons_self ..)
    rw [prodN]
    exact Nat.le_trans (ih fun u hu => hk u (List.mem_cons_of_mem _ hu)) (Nat.le_mul_of_pos_left _ (by omega))
  | cons_cons k h ih =>
    intro hk
    rw [prodN, prodN]
    exact Nat.mul_le_mul_left _ (ih fun u hu => hk u (List.mem_cons_of_mem _ hu))
theorem szs_sub (v : List Int) : ∀ (p : List Int) (last : Int), -1 ≤ last → ascR v.length last p = true → (szs v p).Sublist (v.drop (last + 1).toNat)
  | [], _, _, _ => List.nil_sublist _
  | y :: r, last, hl, h => by
    rw [ascR, Bool.and_eq_true, Bool.and_eq_true, decide_eq_true_iff, decide_eq_true_iff] at h
    have ih := szs_sub v r y (by omega) h.2.2
    have hy : y.toNat < v.length := by omega
    have e : v.drop y.toNat = v.getD y.toNat 0 :: v.drop (y + 1).toNat := by
      rw [List.drop_eq_getElem_cons hy, List.getD_eq_getElem?_getD, List.getElem?_eq_getElem hy, Option.getD_some, show (y + 1).toNat = y.toNat + 1 from by omega]
    have h1 : (szs v (y :: r)).Sublist (v.drop y.toNat) := by rw [e, szs_cons]; exact ih.cons_cons _
    refine h1.trans ?_
    rw [show y.toNat = (last + 1).toNat + (y.toNat - (last + 1).toNat) from by omega, ← List.drop_drop]
    exact List.drop_sublist _ _
theorem Pat.few {v p : List Int} (hp : Pat v p) : prodN (szs v p) ≤ prodN v := by
  have := szs_sub v p (-1) (by omega) hp.asc
  exact prodN_sub this (fun k hk => by have := hp.dom k hk; omega)
theorem proj_loop {t : GTask} {p s : List Int} (hp : Pat t.Vars p) (hs : stateF t.Vars s = true) : ∀ (r : List Int) (n : Nat) (a : Int), (∀ y ∈ r, y ∈ p) → 0 ≤ a → (a + 1) * ((prodN (szs t.Vars r) : Nat) : Int) ≤ 1000000 →
    Rg (M_r32_Project_L1_B t p s) (M_r32_Project_L1_E t p s) r n a = some (pfF t.Vars s r a)
  | [], _, _, _, _, _ => rfl
  | y :: r, n, a, hr, ha, hb => by
    have hy := hr y (List.mem_cons_self ..)
    obtain ⟨y0, y1⟩ := hp.mem hy
    obtain ⟨k0, k1⟩ := hp.get hy
    obtain ⟨s0, s1⟩ := hp.ins hs y hy
    have hl := (stateF_st hs).len
    obtain ⟨k, hk⟩ : ∃ k : Nat, t.Vars.getD y.toNat 0 = k := ⟨(t.Vars.getD y.toNat 0).toNat, by omega⟩
    have hak : 0 ≤ a * (k : Int) := Int.mul_nonneg ha (by omega)
    have hb1 : (a + 1) * (k : Int) = a * (k : Int) + k := by rw [Int.add_mul, Int.one_mul]
    rw [szs_cons, prodN, hk, Int.toNat_natCast, Int.natCast_mul, ← Int.mul_assoc, hb1] at hb
    rw [hk] at s1 k0 k1
    have hpos : 0 < prodN (szs t.Vars r) := prodN_pos (fun q hq => by
      obtain ⟨u, hu, rfl⟩ := List.mem_map.1 hq
      have := hp.get (hr u (List.mem_cons_of_mem _ hu))
      omega)
    have hm : (a * (k : Int) + s.getD y.toNat 0 + 1) * ((prodN (szs t.Vars r) : Nat) : Int) ≤ 1000000 := Int.le_trans (Int.mul_le_mul_of_nonneg_right (by omega) (Int.natCast_nonneg _)) hb
    have hle : a * (k : Int) + s.getD y.toNat 0 + 1 ≤ 1000000 := by
      refine Int.le_trans ?_ hm
      have := Int.mul_le_mul_of_nonneg_left (c := a * (k : Int) + s.getD y.toNat 0 + 1) (show (1 : Int) ≤ ((prodN (szs t.Vars r) : Nat) : Int) by omega) (by omega)
      omega
    rw [Rg, M_r32_Project_L1_B, ixv, ix_getD (d := 0) y0 y1, ix_getD (d := 0) y0 (by omega), hk, w64 (z := a * (k : Int)) (by omega) (by omega), w64 (z := a * (k : Int) + s.getD y.toNat 0) (by omega) (by omega), pfF, hk]
    exact proj_loop hp hs r (n + 1) _ (fun u hu => hr u (List.mem_cons_of_mem _ hu)) (by omega) hm
theorem proj_eq {t : GTask} {p s : List Int} (hp : Pat t.Vars p) (h81 : prodN t.Vars ≤ 81) (hs : stateF t.Vars s = true) : M_r32_Project t p s = some (pfF t.Vars s p 0) := by
  have := hp.four
  have := hp.few
  rw [M_r32_Project, M_r32_Project_L1_eq t p s 0 (by omega)]
  exact proj_loop hp hs p 0 0 (fun _ h => h) (Int.le_refl 0) (by omega)
theorem goal1 {t : GTask} {p s : List Int} (hp : Pat t.Vars p) (hs : stateF t.Vars s = true) (f : Fact) : ∀ (r : List Int) (n : Nat), (∀ y ∈ r, y ∈ p) →
    ∃ z, Rg (M_r32_goal_L1_B p s f) (M_r32_goal_L1_E p s f) r n () = some z ∧ (z = .inl () ∨ z = .inr false) ∧ (hold1 s f = true → z = .inl ())
  | [], _, _ => ⟨.inl (), rfl, .inl rfl, fun _ => rfl⟩
  | y :: r, n, hr => by
    obtain ⟨y0, y1⟩ := hp.mem (hr y (List.mem_cons_self ..))
    have hl := (stateF_st hs).len
    have ih := goal1 hp hs f r (n + 1) (fun u hu => hr u (List.mem_cons_of_mem _ hu))
    rw [Rg, M_r32_goal_L1_B, ixv]
    by_cases e : f.1 = y
    · rw [beq_iff_eq.2 e, sel_tt, ix_getD (d := 0) y0 (by omega)]
      by_cases e2 : s.getD y.toNat 0 = f.2
      · rw [show (s.getD y.toNat 0 != f.2) = false from by rw [bne_eq_false_iff_eq]; exact e2, sel_ff]
        exact ih
      · rw [show (s.getD y.toNat 0 != f.2) = true from by rw [bne_iff_ne]; exact e2, sel_tt]
        refine ⟨_, rfl, .inr rfl, fun h => absurd (hold1_iff.1 h).2.2 ?_⟩
        rw [e]; exact e2
    · rw [show (f.1 == y) = false from by rw [beq_eq_false_iff_ne]; exact e, sel_ff]
      exact ih
theorem goal2 {t : GTask} {p s : List Int} (hp : Pat t.Vars p) (hs : stateF t.Vars s = true) : ∀ (r : List Fact) (n : Nat),
    ∃ b, Rg (M_r32_goal_L2_B t p s) (M_r32_goal_L2_E t p s) r n () = some b ∧ (holdsF s r = true → b = true)
  | [], _ => ⟨true, rfl, fun _ => rfl⟩
  | f :: r, n => by
    have hl := hp.four
    obtain ⟨z, h1, h2, h3⟩ := goal1 hp hs f p 0 (fun _ h => h)
    obtain ⟨b, h4, h5⟩ := goal2 hp hs r (n + 1)
    have h1' : Rg (M_r32_goal_L1_B p s f) (M_r32_goal_L1_E p s f) p 0 () = some z := h1
    rw [Rg, M_r32_goal_L2_B, ixv, M_r32_goal_L1_eq p s f (by omega), h1', ob1_some]
    rcases h2 with rfl | rfl
    · rw [osum_inl]
      refine ⟨b, h4, fun h => h5 ?_⟩
      unfold holdsF at h ⊢
      rw [List.all_cons, Bool.and_eq_true] at h
      exact h.2
    · refine ⟨false, rfl, fun h => ?_⟩
      unfold holdsF at h
      rw [List.all_cons, Bool.and_eq_true] at h
      have := h3 h.1
      cases this
theorem agoal_eq {t : GTask} {p s : List Int} (hp : Pat t.Vars p) (hs : stateF t.Vars s = true) (hg : t.Goal.length ≤ 1000000) : ∃ b, M_r32_goal t p s = some b ∧ (holdsF s t.Goal = true → b = true) := by
  obtain ⟨b, h1, h2⟩ := goal2 (t := t) hp hs t.Goal 0
  refine ⟨b, ?_, h2⟩
  rw [M_r32_goal, M_r32_goal_L2_eq t p s (by omega)]
  exact h1
end Go.Proofs.YtohjegemooakpaaGreat.Am
namespace Go.Proofs.YtohjegemooakpaaGreat.Am
open Go.RowKit
structure TG (t : GTask) (p d : List Int) : Prop where
  len : d.length = prodN (szs t.Vars p)
  rng : ∀ x ∈ d, 0 ≤ x ∧ x ≤ infD
  goal : ∀ s, stateF t.Vars s = true → holdsF s t.Goal = true → d[(pfF t.Vars s p 0).toNat]? = some 0
  bnd : ∀ x ∈ d, x ≠ infD → x ≤ 1048576 * (finN d : Int)
def ACalm (t : GTask) (p d : List Int) (e : GEdge) : Prop := ∀ (a b q : Nat) (o : GOp) (s u : List Int) (x y : Int), e = { From := (a : Int), Op := (q : Int), To := (b : Int) } → t.Ops[q]? = some o → (allF t)[a]? = some s → (allF t)[b]? = some u → d[(pfF t.Vars u p 0).toNat]? = some x → d[(pfF t.Vars s p 0).toNat]? = some y → x < infD → y ≤ x + o.Cost
theorem abs1 (z : Int) : ∀ (m i : Nat) (v : List Int), v.length = i + m → i + m ≤ 1000000 →
    Rn (M_r32_Abstract_L1_B z) (M_r32_Abstract_L1_E z) m i v = some (v.take i ++ List.replicate m infD)
  | 0, i, v, hl, _ => by
    rw [Rn, M_r32_Abstract_L1_E, List.replicate_zero, List.append_nil, List.take_of_length_le (by omega)]
  | m + 1, i, v, hl, hb => by
    have hv : v[i]? = some (v[i]'(by omega)) := List.getElem?_eq_getElem _
    rw [Rn, M_r32_Abstract_L1_B, Int.toNat_natCast, ixn_at hv, grd_t (by omega), grd_t (by omega)]
    refine Eq.trans (abs1 z m (i + 1) (v.set i 1125899906842624) (by rw [List.length_set]; omega) (by omega)) ?_
    rw [take_set _ v i (by omega), List.append_assoc]
    rfl
section
variable {t : GTask} {p : List Int} (hp : Pat t.Vars p) (h81 : prodN t.Vars ≤ 81) (hgood : goodF t = true)
include hp h81 hgood
omit hgood in
theorem abs2 (hg : t.Goal.length ≤ 1000000) : ∀ (r : List (List Int)) (n : Nat) (d : List Int), (∀ s ∈ r, stateF t.Vars s = true) → d.length = prodN (szs t.Vars p) → (∀ x ∈ d, x = 0 ∨ x = infD) →
    ∃ d', Rg (M_r32_Abstract_L2_B t p (allF t)) (M_r32_Abstract_L2_E t p (allF t)) r n d = some d' ∧ d'.length = prodN (szs t.Vars p) ∧ (∀ x ∈ d', x = 0 ∨ x = infD) ∧ (∀ i : Nat, d[i]? = some 0 → d'[i]? = some 0) ∧ ∀ s ∈ r, holdsF s t.Goal = true → d'[(pfF t.Vars s p 0).toNat]? = some 0
  | [], n, d, _, hl, hx => ⟨d, rfl, hl, hx, fun _ h => h, fun s hs => by cases hs⟩
  | s :: r, n, d, hr, hl, hx => by
    have hs := hr s (List.mem_cons_self ..)
    have hr' : ∀ s ∈ r, stateF t.Vars s = true := fun u hu => hr u (List.mem_cons_of_mem _ hu)
    obtain ⟨b, hb1, hb2⟩ := agoal_eq hp hs hg
    obtain ⟨k, hk, hklt⟩ := hp.pf hs
    rw [Rg, M_r32_Abstract_L2_B, ixv, hb1, ob1_some]
    cases b with
    | false =>
      obtain ⟨d', e1, e2, e3, e4, e5⟩ := abs2 hg r (n + 1) d hr' hl hx
      rw [sel_ff]
      refine ⟨d', e1, e2, e3, e4, fun u hu hh => ?_⟩
      rcases List.mem_cons.1 hu with rfl | hu
      · cases hb2 hh
      · exact e5 u hu hh
    | true =>
      have hd : d[k]? = some (d[k]'(by omega)) := List.getElem?_eq_getElem _
      have hset : (d.set k 0)[k]? = some 0 := List.getElem?_set_self (by omega)
      obtain ⟨d', e1, e2, e3, e4, e5⟩ := abs2 hg r (n + 1) (d.set k 0) hr' (by rw [List.length_set]; exact hl) (fun x hx' => by
        rcases List.mem_or_eq_of_mem_set hx' with h | h
        · exact hx x h
        · exact .inl h)
      rw [sel_tt, proj_eq hp h81 hs, ob1_some, hk, Int.toNat_natCast, ixn_at hd, grd_t (by omega), grd_t (by omega)]
      refine ⟨d', e1, e2, e3, fun i hi => ?_, fun u hu hh => ?_⟩
      · refine e4 i ?_
        by_cases hik : k = i
        · subst hik; exact hset
        · rw [List.getElem?_set_ne hik]; exact hi
      · rcases List.mem_cons.1 hu with rfl | hu
        · rw [hk, Int.toNat_natCast]; exact e4 k hset
        · exact e5 u hu hh
theorem abs3 (es : List GEdge) : ∀ (r : List GEdge) (i : Int) (b : Bool) (d : List Int), (∀ e ∈ r, EdgP t e) → TG t p d →
    ∃ b' d', Rg (M_r32_Abstract_L3_B t p (allF t) es) (M_r32_Abstract_L3_E t p (allF t) es) r i (b, d) = some (b', d') ∧ TG t p d' ∧ ((b' = b ∧ d' = d ∧ ∀ e ∈ r, ACalm t p d e) ∨ (b' = true ∧ d'.sum < d.sum))
  | [], i, b, d, _, hd => ⟨b, d, rfl, hd, .inl ⟨rfl, rfl, fun e he => by cases he⟩⟩
  | e :: r, i, b, d, he, hd => by
    have her : ∀ e ∈ r, EdgP t e := fun u hu => he u (List.mem_cons_of_mem _ hu)
    obtain ⟨a, bb, q, s, o, e1, e2, e3, h1, h2, h3, h4⟩ := (he e (List.mem_cons_self ..)).ex
    obtain ⟨F, O, T⟩ := e
    simp only at e1 e2 e3
    subst e1 e2 e3
    have ho := List.mem_of_getElem? h3
    have hcost := good_cost hgood ho
    have hs : stateF t.Vars s = true := (allF_mem t s).1 (List.mem_of_getElem? h1)
    have hu : stateF t.Vars (nextF s o) = true := (allF_mem t _).1 (List.mem_of_getElem? h2)
    obtain ⟨ka, hka, hkal⟩ := hp.pf hs
    obtain ⟨kb, hkb, hkbl⟩ := hp.pf hu
    rw [← hd.len] at hkal hkbl
    obtain ⟨x, hx⟩ : ∃ x, d[kb]? = some x := ⟨_, List.getElem?_eq_getElem hkbl⟩
    obtain ⟨y, hy⟩ : ∃ y, d[ka]? = some y := ⟨_, List.getElem?_eq_getElem hkal⟩
    obtain ⟨x0, x1⟩ := hd.rng x (List.mem_of_getElem? hx)
    obtain ⟨y0, y1⟩ := hd.rng y (List.mem_of_getElem? hy)
    have hcalm : (x < infD → y ≤ x + o.Cost) → ACalm t p d { From := (a : Int), Op := (q : Int), To := (bb : Int) } := fun hh a' b' q' o' s' u' x' y' e ho' hs' hu' hx' hy' hlt => by
      simp only [GEdge.mk.injEq] at e
      obtain ⟨ea, eq, eb⟩ := e
      obtain rfl : a' = a := by omega
      obtain rfl : b' = bb := by omega
      obtain rfl : q' = q := by omega
      rw [h3] at ho'; rw [h1] at hs'; rw [h2] at hu'
      injection ho' with ho'; injection hs' with hs'; injection hu' with hu'
      subst ho' hs' hu'
      rw [hkb, Int.toNat_natCast, hx] at hx'; rw [hka, Int.toNat_natCast, hy] at hy'
      injection hx' with hx'; injection hy' with hy'
      subst hx' hy'
      exact hh hlt
    unfold infD at x1 y1 hcalm
    have hw : IntKind.i64.wrap (x + o.Cost) = x + o.Cost := wrap_eq (by omega) (by omega)
    have hcons : (x < 1125899906842624 → y ≤ x + o.Cost) → ∃ b' d', Rg (M_r32_Abstract_L3_B t p (allF t) es) (M_r32_Abstract_L3_E t p (allF t) es) r (i + 1) (b, d) = some (b', d') ∧ TG t p d' ∧ ((b' = b ∧ d' = d ∧ ∀ e ∈ ({ From := (a : Int), Op := (q : Int), To := (bb : Int) } : GEdge) :: r, ACalm t p d e) ∨ (b' = true ∧ d'.sum < d.sum)) := fun hh => by
      obtain ⟨b', d', g1, g2, g3⟩ := abs3 es r (i + 1) b d her hd
      refine ⟨b', d', g1, g2, g3.imp (fun ⟨q1, q2, q3⟩ => ⟨q1, q2, fun e he => ?_⟩) id⟩
      rcases List.mem_cons.1 he with rfl | he
      · exact hcalm hh
      · exact q3 e he
    rw [Rg, M_r32_Abstract_L3_B]
    simp only [ixv, ix_at h1, ix_at h2, ix_at h3, proj_eq hp h81 hs, proj_eq hp h81 hu, hka, hkb, ob1_some, Int.toNat_natCast, ixn_at hx, ixn_at hy, sel_dec]
    by_cases hlt : x < 1125899906842624
    · rw [if_pos hlt, grd_t (by omega), grd_t (by omega), grd_t (by omega), grd_t (by omega), ob1_some, hw]
      by_cases hr : x + o.Cost < y
      · rw [decide_eq_true hr, sel_tt, grd_t (by omega), grd_t (by omega), grd_t (by omega), grd_t (by omega)]
        have hd1 : TG t p (d.set ka (x + o.Cost)) := by
          have hbx := hd.bnd x (List.mem_of_getElem? hx) (by unfold infD; omega)
          have hfin := finN_set d ka y (x + o.Cost) hy (by unfold infD; omega)
          refine ⟨by rw [List.length_set]; exact hd.len, fun z hz => ?_, fun s' hs' hg' => ?_, fun z hz hne => ?_⟩
          · rcases List.mem_or_eq_of_mem_set hz with hz | rfl
            · exact hd.rng z hz
            · unfold infD; omega
          · have hz := hd.goal s' hs' hg'
            by_cases hai : ka = (pfF t.Vars s' p 0).toNat
            · rw [← hai, hy] at hz
              injection hz with hz
              omega
            · rw [List.getElem?_set_ne hai]; exact hz
          · rw [hfin]
            rcases List.mem_or_eq_of_mem_set hz with hz | rfl
            · have := hd.bnd z hz hne
              split <;> omega
            · by_cases hyi : y = infD
              · rw [if_pos hyi]; omega
              · have := hd.bnd y (List.mem_of_getElem? hy) hyi
                rw [if_neg hyi]; omega
        obtain ⟨b', d', g1, g2, g3⟩ := abs3 es r (i + 1) true _ her hd1
        have hsum := sum_set (x + o.Cost) d ka y hy
        refine ⟨b', d', g1, g2, .inr ?_⟩
        rcases g3 with ⟨g3, g4, -⟩ | ⟨g3, g4⟩
        · exact ⟨g3, by rw [g4, hsum]; omega⟩
        · exact ⟨g3, by rw [hsum] at g4; omega⟩
      · rw [decide_eq_false hr, sel_ff]
        exact hcons (fun _ => by omega)
    · rw [if_neg hlt, grd_t (by omega), grd_t (by omega), ob1_some, sel_ff]
      exact hcons (fun h => absurd h hlt)
theorem abs4 (es : List GEdge) (hes : ∀ e ∈ es, EdgP t e) (hlen : es.length ≤ 100000) : ∀ (S k : Nat) (d : List Int), TG t p d → d.sum ≤ S → S + 2 ≤ k → ∃ d', M_r32_Abstract_L4 t p (allF t) es k true d = some d' ∧ TG t p d' ∧ ∀ e ∈ es, ACalm t p d' e := by
  have hfew := hp.few
  intro S
  induction S with
  | zero =>
    intro k d hd hs hk
    obtain ⟨k, rfl⟩ : ∃ j, k = j + 2 := ⟨k - 2, by omega⟩
    obtain ⟨b', d', g1, g2, g3⟩ := abs3 hp h81 hgood es es 0 false d hes hd
    have hpos := sum_pos d' (fun x hx => (g2.rng x hx).1)
    rcases g3 with ⟨rfl, rfl, g5⟩ | ⟨-, g4⟩
    · refine ⟨d', ?_, g2, g5⟩
      have hl := g2.len
      rw [M_r32_Abstract_L4, sel_tt, M_r32_Abstract_L3_eq t p (allF t) es false d' (by omega), g1, ob1_some]
      simp only
      rw [M_r32_Abstract_L4, sel_ff, grd_t (by omega)]
    · omega
  | succ S ih =>
    intro k d hd hs hk
    obtain ⟨k, rfl⟩ : ∃ j, k = j + 2 := ⟨k - 2, by omega⟩
    obtain ⟨b', d', g1, g2, g3⟩ := abs3 hp h81 hgood es es 0 false d hes hd
    rw [M_r32_Abstract_L4, sel_tt, M_r32_Abstract_L3_eq t p (allF t) es false d (by omega), g1, ob1_some]
    simp only
    rcases g3 with ⟨rfl, rfl, g5⟩ | ⟨rfl, g4⟩
    · have hl := g2.len
      exact ⟨d', by rw [M_r32_Abstract_L4, sel_ff, grd_t (by omega)], g2, g5⟩
    · exact ih (k + 1) d' g2 (by omega) (by omega)
end
structure TFix (t : GTask) (p d : List Int) : Prop where
  g : TG t p d
  step : ∀ (s : List Int) (o : GOp) (x y : Int), stateF t.Vars s = true → o ∈ t.Ops → holdsF s o.Pre = true → d[(pfF t.Vars (nextF s o) p 0).toNat]? = some x → d[(pfF t.Vars s p 0).toNat]? = some y → x < infD → y ≤ x + o.Cost
theorem abs_eq {t : GTask} {p : List Int} (hp : Pat t.Vars p) (hsm : smallF t = true) (h81 : prodN t.Vars ≤ 81) (hg : t.Goal.length ≤ 1000000) (g : Nat) (hgg : 1000000000000000000 ≤ g) : ∃ d, M_r32_Abstract g t p = some d ∧ TFix t p d := by
  have hgood := (small_good hsm).1
  have hal := allF_len t hsm
  have hfew := hp.few
  have h4 := hp.four
  obtain ⟨es, h1, h2, h3, hall⟩ := edges_all hsm
  obtain ⟨d0, a1, a2, a3, -, a5⟩ := abs2 hp h81 hg (allF t) 0 (List.replicate (prodN (szs t.Vars p)) infD) (fun s hs => (allF_mem t s).1 hs) (List.length_replicate ..) (fun x hx => .inr (List.eq_of_mem_replicate hx))
  have hd0 : TG t p d0 := by
    refine ⟨a2, fun x hx => ?_, fun s hs hh => a5 s ((allF_mem t s).2 hs) hh, fun x hx hne => ?_⟩
    · unfold infD
      rcases a3 x hx with rfl | rfl <;> simp
    · rcases a3 x hx with rfl | rfl
      · omega
      · exact absurd rfl hne
  have hsum := sum_le infD _ (fun x hx => (hd0.rng x hx).2)
  rw [a2] at hsum
  have hle : infD * ((prodN (szs t.Vars p) : Nat) : Int) ≤ infD * 512 := Int.mul_le_mul_of_nonneg_left (by omega) (by decide)
  have hs2 : d0.sum ≤ (576460752303423488 : Nat) := Int.le_trans hsum (Int.le_trans hle (by decide))
  obtain ⟨d, e1, e2, e3⟩ := abs4 hp h81 hgood es h3 h2 576460752303423488 g _ hd0 hs2 (by omega)
  refine ⟨d, ?_, e2, fun s o x y hs ho hpre hx hy hlt => ?_⟩
  · have hsz : M_r32_Sizes t p = some (szs t.Vars p) := sizes_eq (fun y hy => hp.mem hy) (by omega)
    have hl4 : (szs t.Vars p).length = p.length := List.length_map _
    have hmany := manyF_prod 65536 (szs t.Vars p) 1 (fun k hk => by have := hp.sz hk; omega) (by omega) (by omega)
    rw [Nat.one_mul, show ((1 : Nat) : Int) = 1 from rfl, if_pos (by omega), show ((65536 : Nat) : Int) = 65536 from rfl] at hmany
    have hm : M_b_Many (szs t.Vars p) 65536 = some ((prodN (szs t.Vars p) : Nat) : Int) := by
      rw [many_eq _ (by unfold Sh; omega) _ (by omega), hmany]
    have b1 := abs1 ((prodN (szs t.Vars p) : Nat) : Int) (prodN (szs t.Vars p)) 0 (List.replicate (prodN (szs t.Vars p)) 0) (by rw [List.length_replicate, Nat.zero_add]) (by omega)
    rw [List.take_zero, List.nil_append] at b1
    have c1 := M_r32_Abstract_L1_eq ((prodN (szs t.Vars p) : Nat) : Int) (List.replicate (prodN (szs t.Vars p)) 0) (m := prodN (szs t.Vars p)) (by rw [Int.toNat_natCast]) (by omega)
    rw [M_r32_Abstract, states_eq t hsm, ob1_some, hsz, ob1_some, hm, ob1_some, grd_t (by omega), grd_t (by omega)]
    rw [show (((prodN (szs t.Vars p) : Nat) : Int)).toNat = prodN (szs t.Vars p) from Int.toNat_natCast _] at c1 ⊢
    have b1' : Rn (M_r32_Abstract_L1_B ((prodN (szs t.Vars p) : Nat) : Int)) (M_r32_Abstract_L1_E ((prodN (szs t.Vars p) : Nat) : Int)) (prodN (szs t.Vars p)) 0 (List.replicate (prodN (szs t.Vars p)) 0) = _ := b1
    rw [c1, b1', ob1_some, M_r32_Abstract_L2_eq t p (allF t) _ (by omega)]
    have a1' : Rg (M_r32_Abstract_L2_B t p (allF t)) (M_r32_Abstract_L2_E t p (allF t)) (allF t) 0 (List.replicate (prodN (szs t.Vars p)) infD) = some d0 := a1
    rw [a1', ob1_some, h1, ob1_some]
    exact e1
  · obtain ⟨i, hi⟩ := List.getElem?_of_mem ((allF_mem t s).2 hs)
    obtain ⟨q, hq⟩ := List.getElem?_of_mem ho
    obtain ⟨e, he, kk, hee, hkk⟩ := hall i s q o hi hq hpre
    exact e3 e he i kk q o s (nextF s o) x y hee hq hi hkk hx hy hlt
end Go.Proofs.YtohjegemooakpaaGreat.Am
namespace Go.Proofs.YtohjegemooakpaaGreat.Am
open Go.RowKit
theorem sum_ge (c : Int → Nat) : ∀ (m : Nat) (x : Int), (∀ y, x ≤ y → y < x + m → 1 ≤ c y) → m ≤ ((List.range m).map fun k : Nat => c (x + k)).sum
  | 0, _, _ => Nat.zero_le _
  | m + 1, x, h => by
    have e : ((fun k : Nat => c (x + k)) ∘ Nat.succ) = fun k : Nat => c (x + 1 + k) := by
      funext k; simp only [Function.comp, Nat.succ_eq_add_one]; congr 1; omega
    rw [List.range_succ_eq_map, List.map_cons, List.sum_cons, List.map_map, e]
    have h0 := h (x + (0 : Nat)) (by omega) (by omega)
    have ih := sum_ge c m (x + 1) (fun y h1 h2 => h y (by omega) (by omega))
    omega
theorem kids_cost2 (f : Int → Bool × Int) (c : Int → Nat) : ∀ (m : Nat) (x a : Int), (∀ y, x ≤ y → y < x + m → 1 ≤ (f y).2 ∧ (f y).2 + 1 ≤ 2 * (c y : Int)) → (kids f m x a).2 + m ≤ a + 2 * ((((List.range m).map fun k : Nat => c (x + k)).sum : Nat) : Int)
  | 0, x, a, _ => by simp [kids]
  | m + 1, x, a, h => by
    have h0 := h x (Int.le_refl _) (by omega)
    have e : ((fun k : Nat => c (x + k)) ∘ Nat.succ) = fun k : Nat => c (x + 1 + k) := by
      funext k; simp only [Function.comp, Nat.succ_eq_add_one]; congr 1; omega
    have e0 : x + ((0 : Nat) : Int) = x := by omega
    rw [List.range_succ_eq_map, List.map_cons, List.sum_cons, List.map_map, e, e0, Int.natCast_add]
    have hs := sum_ge c m (x + 1) (fun y h1 h2 => by have := h y (by omega) (by omega); omega)
    rw [kids]
    split
    · have ih := kids_cost2 f c m (x + 1) (a + (f x).2) (fun y h1 h2 => h y (by omega) (by omega))
      omega
    · show a + (f x).2 + _ ≤ _; omega
theorem decA_cost2 {vars : List Int} (h2 : ∀ n ∈ vars, 2 ≤ n) (S : List (List Int)) (hS : ∀ s, stateF vars s = true → s ∈ S) : ∀ (d : Nat) (p : List Fact) (l : List (List Fact)), DecP vars d p l → (decA vars d p l).2 + 1 ≤ 2 * (cntS S p : Int)
  | 0, p, l, h => h.zero.elim
  | d + 1, p, l, h => by
    have hone : 1 ≤ cntS S p := by
      obtain ⟨s, s1, s2⟩ := some_state h.dom h.prop
      exact List.length_pos_of_mem (List.mem_filter.2 ⟨hS s s1, s2⟩)
    rw [decA]
    split
    · show (1 : Int) + 1 ≤ _; omega
    · split
      · show (1 : Int) + 1 ≤ _; omega
      · rename_i hc hl
        obtain ⟨l1, l2, l3⟩ := h.low hl
        have hm2 : 2 ≤ vars.getD (lowL p (restP p l) vars.length).toNat 0 := by
          rw [List.getD_eq_getElem?_getD, List.getElem?_eq_getElem (by omega), Option.getD_some]
          exact h2 _ (List.getElem_mem _)
        have hk := kids_cost2 (fun x => decA vars d (pwithF p (lowL p (restP p l) vars.length, x)) (restP p l)) (fun x => cntS S (pwithF p (lowL p (restP p l) vars.length, x))) (vars.getD (lowL p (restP p l) vars.length).toNat 0).toNat 0 1
          (fun y y0 y1 => ⟨decA_pos vars d _ _, decA_cost2 h2 S hS d _ _ (h.kid hl y0 (by omega))⟩)
        have hsum := cnt_split (lowL p (restP p l) vars.length) p S (vars.getD (lowL p (restP p l) vars.length).toNat 0).toNat 0 (fun x => cntS S (pwithF p (lowL p (restP p l) vars.length, x))) (fun y => by
          unfold cntS
          refine Nat.le_of_eq (congrArg List.length (List.filter_congr fun s _ => ?_))
          rw [Bool.eq_iff_iff, holds_pwith, Bool.and_eq_true])
        have hle : (S.filter fun s => holdsF s p && decide (0 ≤ s.getD (lowL p (restP p l) vars.length).toNat 0)).length ≤ cntS S p := by
          unfold cntS
          rw [show (S.filter fun s => holdsF s p && decide (0 ≤ s.getD (lowL p (restP p l) vars.length).toNat 0)) = (S.filter fun s => holdsF s p).filter fun s => decide (0 ≤ s.getD (lowL p (restP p l) vars.length).toNat 0) from by
            rw [List.filter_filter]; exact List.filter_congr fun s _ => Bool.and_comm _ _]
          exact List.length_filter_le _ _
        have := Nat.le_trans hsum hle
        omega
theorem sum_add {α : Type} (a b : α → Nat) : ∀ (l : List α), (l.map fun x => a x + b x).sum = (l.map a).sum + (l.map b).sum
  | [] => rfl
  | x :: l => by rw [List.map_cons, List.map_cons, List.map_cons, List.sum_cons, List.sum_cons, List.sum_cons, sum_add a b l]; omega
theorem sum_swap {α β : Type} (f : α → β → Nat) (l : List α) : ∀ (r : List β), (r.map fun y => (l.map fun x => f x y).sum).sum = (l.map fun x => (r.map fun y => f x y).sum).sum
  | [] => by
    have : ∀ l : List α, (l.map fun _ => 0).sum = 0 := by
      intro l
      induction l with
      | nil => rfl
      | cons x l ih => rw [List.map_cons, List.sum_cons, ih]
    exact (this l).symm
  | y :: r => by
    rw [List.map_cons, List.sum_cons, sum_swap f l r, ← sum_add]
    rfl
theorem sum_most {α : Type} (f : α → Nat) (k : Nat) : ∀ (l : List α), (∀ x ∈ l, f x ≤ k) → (l.map f).sum ≤ k * l.length
  | [], _ => Nat.le_refl _
  | x :: l, h => by
    have h1 := h x (List.mem_cons_self ..)
    have h2 := sum_most f k l fun y hy => h y (List.mem_cons_of_mem _ hy)
    rw [List.map_cons, List.sum_cons, List.length_cons, Nat.mul_succ]
    omega
theorem filter_sum {α : Type} (q : α → Bool) : ∀ (l : List α), (l.filter q).length = (l.map fun x => if q x = true then 1 else 0).sum
  | [] => rfl
  | x :: l => by
    rw [List.filter_cons, List.map_cons, List.sum_cons, ← filter_sum q l]
    split
    · rw [List.length_cons]; omega
    · omega
def Apart (t : GTask) (ns : List Nogood) : Prop := ns.Pairwise fun a b => ∀ s, stateF t.Vars s = true → holdsF s a.1 = true → holdsF s b.1 = true → False
def prN (t : GTask) (o : GOp) (n : Nogood) : Nat := ((allF t).filter (inF o n.1)).length
def wtN (t : GTask) (ns : List Nogood) : Nat := (ns.map fun n => (t.Ops.map fun o => prN t o n).sum).sum
theorem apart_one {t : GTask} {o : GOp} {s : List Int} (hs : stateF t.Vars (nextF s o) = true) : ∀ (ns : List Nogood), Apart t ns → (ns.map fun n => if inF o n.1 s = true then 1 else 0).sum ≤ 1
  | [], _ => Nat.zero_le _
  | n :: ns, h => by
    obtain ⟨h1, h2⟩ := List.pairwise_cons.1 h
    rw [List.map_cons, List.sum_cons]
    by_cases hn : inF o n.1 s = true
    · have hz : ∀ r : List Nogood, (∀ m ∈ r, m ∈ ns) → (r.map fun n => if inF o n.1 s = true then 1 else 0).sum = 0 := by
        intro r
        induction r with
        | nil => intro _; rfl
        | cons m r ih =>
          intro hr
          rw [List.map_cons, List.sum_cons, ih fun u hu => hr u (List.mem_cons_of_mem _ hu), if_neg]
          intro hm
          unfold inF at hn hm
          rw [Bool.and_eq_true] at hn hm
          exact h1 m (hr m (List.mem_cons_self ..)) _ hs hn.2 hm.2
      rw [if_pos hn, hz ns fun _ h => h]
      exact Nat.le_refl _
    · rw [if_neg hn, Nat.zero_add]
      exact apart_one hs ns h2
theorem wt_all {t : GTask} (hgood : goodF t = true) {ns : List Nogood} (h : Apart t ns) : wtN t ns ≤ (allF t).length * t.Ops.length := by
  unfold wtN
  rw [sum_swap (fun o n => prN t o n) t.Ops ns]
  refine sum_most _ _ t.Ops fun o ho => ?_
  have e : (ns.map fun n => prN t o n) = ns.map fun n => ((allF t).map fun s => if inF o n.1 s = true then 1 else 0).sum := List.map_congr_left fun n _ => filter_sum _ _
  rw [e, sum_swap (fun s n => if inF o n.1 s = true then 1 else 0) (allF t) ns]
  have := sum_most (fun s => (ns.map fun n => if inF o n.1 s = true then 1 else 0).sum) 1 (allF t) fun s hs => apart_one (next_state hgood ((allF_mem t s).1 hs) ho) ns h
  omega
section
variable {t : GTask} (hf : Fit t) {c : GCertificate} (hc : CertP t.Vars c) (ha : Acc t c)
include hf hc
theorem ask_wt {p : List Fact} (hp : propF t.Vars (-1) p = true) (d : Int) : (covA t.Vars p (countL c.Nogoods d)).2 ≤ 2 * (cntS (allF t) p : Int) := by
  have h1 := decA_cost2 (fun n hn => (hf.dom n hn).1) (allF t) (fun s hs => (allF_mem t s).2 hs) _ p _ (cov_pre (good_dom hf.good) hp (count_prop hc d))
  unfold covA
  omega
theorem stepL_wt (d : Int) (k : Nat) : ∀ (l : List (List Fact)) (r : Int), (∀ p ∈ l, covB t c d p = true ∧ propF t.Vars (-1) p = true ∧ cntS (allF t) p ≤ k) → 2 * ((l.length * k : Nat) : Int) ≤ r → ∃ r', stepL t c d l r = (.nil, r') ∧ r - 2 * ((l.length * k : Nat) : Int) ≤ r'
  | [], r, _, _ => ⟨r, rfl, by simp⟩
  | p :: ps, r, h, hr => by
    obtain ⟨h1, h2, h3⟩ := h p (List.mem_cons_self ..)
    have hw := ask_wt hf hc h2 d
    rw [List.length_cons, Nat.succ_mul, Int.natCast_add] at hr ⊢
    obtain ⟨r', e1, e2⟩ := stepL_wt d k ps (r - (covA t.Vars p (countL c.Nogoods d)).2) (fun q hq => h q (List.mem_cons_of_mem _ hq)) (by omega)
    have hask : askC t c p d r = (true, .nil, r - (covA t.Vars p (countL c.Nogoods d)).2) := by
      unfold askC
      unfold covB at h1
      rw [if_pos (by omega), h1]
    rw [stepL, hask]
    exact ⟨r', e1, by omega⟩
include ha
theorem stepO_wt {n : Nogood} (hn : n ∈ c.Nogoods) {o : GOp} (ho : o ∈ t.Ops) (r : Int) (hr : 2048 * (prN t o n : Int) ≤ r) : ∃ r', stepO t c n o r = (.nil, r') ∧ r - 2048 * (prN t o n : Int) ≤ r' := by
  unfold stepO
  split
  · exact ⟨r, rfl, by omega⟩
  · rename_i hsk
    have hpn := hc.prop n hn
    obtain ⟨l, l1, l3, l4⟩ := regT hf.cap hf.good hpn ho
    rw [l1]
    have hm : l.length * prN t o n ≤ 1024 * prN t o n := Nat.mul_le_mul_right _ l4
    have hin : ∀ p ∈ l, ∀ s, stateF t.Vars s = true → holdsF s p = true → inF o n.1 s = true := fun p hp s hs hh => (inF_iff hf.good ho (stateF_st hs) hpn l1).1 ⟨p, hp, hh⟩
    obtain ⟨r', e1, e2⟩ := stepL_wt hf hc (distO c n o) (prN t o n) l r (fun p hp => ⟨(covB_true hf.good hc (l3 p hp) _).2 fun s hs hh =>
      ha.step n hn o ho (Bool.eq_false_iff.2 hsk) s ((allF_mem t s).2 hs) (hin p hp s hs hh), l3 p hp, by
        unfold cntS prN
        rw [← List.countP_eq_length_filter, ← List.countP_eq_length_filter]
        exact List.countP_mono_left fun s hs hh => hin p hp s ((allF_mem t s).1 hs) hh⟩) (by omega)
    exact ⟨r', e1, by omega⟩
theorem opsC_wt {n : Nogood} (hn : n ∈ c.Nogoods) (i : Int) : ∀ (l : List GOp) (j r : Int), (∀ o ∈ l, o ∈ t.Ops) → 2048 * (((l.map fun o => prN t o n).sum : Nat) : Int) ≤ r → ∃ r', opsC t c n i l j r = .inl r' ∧ r - 2048 * (((l.map fun o => prN t o n).sum : Nat) : Int) ≤ r'
  | [], j, r, _, _ => ⟨r, rfl, by simp⟩
  | o :: os, j, r, h, hr => by
    rw [List.map_cons, List.sum_cons, Int.natCast_add] at hr ⊢
    have ho := h o (List.mem_cons_self ..)
    obtain ⟨r1, e1, e2⟩ := stepO_wt hf hc ha hn ho r (by omega)
    obtain ⟨r2, e3, e4⟩ := opsC_wt hn i os (j + 1) r1 (fun u hu => h u (List.mem_cons_of_mem _ hu)) (by omega)
    exact ⟨r2, by rw [opsC, e1]; exact e3, by omega⟩
theorem nogC_wt : ∀ (l : List Nogood) (i r : Int), (∀ n ∈ l, n ∈ c.Nogoods) → 2048 * (wtN t l : Int) ≤ r → nogC t c l i r = (-1, -1, .nil)
  | [], i, r, _, _ => rfl
  | n :: ns, i, r, h, hr => by
    have hw : wtN t (n :: ns) = (t.Ops.map fun o => prN t o n).sum + wtN t ns := by unfold wtN; rw [List.map_cons, List.sum_cons]
    rw [hw, Int.natCast_add] at hr
    obtain ⟨r1, e1, e2⟩ := opsC_wt hf hc ha (h n (List.mem_cons_self ..)) i t.Ops 0 r (fun _ h => h) (by omega)
    rw [nogC, e1]
    exact nogC_wt ns (i + 1) r1 (fun u hu => h u (List.mem_cons_of_mem _ hu)) (by omega)
theorem ver_wt (hops : t.Ops.length ≤ 6) (hap : Apart t c.Nogoods) : verF t c 1048576 = .nil := by
  have h81 : (allF t).length ≤ 81 := by
    have := statesG_len2 t.Vars [[]]
    have hh := hf.prod
    unfold allF
    rw [this]; simp; omega
  have hall := wt_all hf.good hap
  have hmul : (allF t).length * t.Ops.length ≤ 81 * 6 := Nat.mul_le_mul h81 hops
  unfold verF whereF
  rw [(good_check t).1 hf.good]
  simp only
  rw [(properF_nil t.Vars c).2 hc]
  simp only
  unfold whereC
  have hi : ¬ (c.Nogoods.any fun n => holdsF t.Init n.1) = true := fun h => by
    obtain ⟨n, hn, h2⟩ := List.any_eq_true.1 h
    rw [ha.init n hn] at h2
    cases h2
  rw [if_neg hi, show max 0 (min (1048576 : Int) 1048576) = 1048576 from rfl]
  split
  · rw [nogC_wt hf hc ha c.Nogoods 0 1048576 (fun _ h => h) (by omega)]
  · rename_i hb
    have hg : covB t c 0 t.Goal = true := (covB_true hf.good hc (good_goal hf.good) 0).2 fun s hs hh => ha.goal hb s ((allF_mem t s).2 hs) hh
    have hw := ask_wt hf hc (good_goal hf.good) 0
    have hcn : cntS (allF t) t.Goal ≤ (allF t).length := List.length_filter_le _ _
    have hask : askC t c t.Goal 0 1048576 = (true, .nil, 1048576 - (covA t.Vars t.Goal (countL c.Nogoods 0)).2) := by
      unfold askC
      unfold covB at hg
      rw [if_pos (by omega), hg]
    rw [hask]
    show (nogC t c c.Nogoods 0 (1048576 - (covA t.Vars t.Goal (countL c.Nogoods 0)).2)).2.2 = _
    rw [nogC_wt hf hc ha c.Nogoods 0 _ (fun _ h => h) (by omega)]
end
end Go.Proofs.YtohjegemooakpaaGreat.Am
namespace Go.Proofs.YtohjegemooakpaaGreat.Am
open Go.RowKit
theorem single1 (o : GOp) : ∀ (r : List GEffect) (i v : Int), ∃ z, Rg (M_l32_single_L1_B o) (M_l32_single_L1_E o) r i v = some z
  | [], _, v => ⟨v, rfl⟩
  | e :: r, i, v => by
    rw [Rg, M_l32_single_L1_B, ixv, sel_dec]
    split
    · exact single1 o r (i + 1) _
    · exact single1 o r (i + 1) v
theorem single2 (t : GTask) (hsh : ∀ o ∈ t.Ops, o.Effs.length ≤ 8) : ∀ (r : List GOp) (i : Int), (∀ o ∈ r, o ∈ t.Ops) → ∃ b, Rg (M_l32_single_L2_B t) (M_l32_single_L2_E t) r i () = some b
  | [], _, _ => ⟨true, rfl⟩
  | o :: r, i, h => by
    have h8 := hsh o (h o (List.mem_cons_self ..))
    obtain ⟨z, hz⟩ := single1 o o.Effs 0 0
    rw [Rg, M_l32_single_L2_B, ixv, M_l32_single_L1_eq o 0 (by omega), hz, ob1_some, sel_dec]
    split
    · exact ⟨false, rfl⟩
    · exact single2 t hsh r (i + 1) fun u hu => h u (List.mem_cons_of_mem _ hu)
theorem small_effs {t : GTask} (h : smallF t = true) : ∀ o ∈ t.Ops, o.Effs.length ≤ 8 := by
  unfold smallF at h
  simp only [Bool.and_eq_true, List.all_eq_true, decide_eq_true_iff] at h
  exact h.2.1
theorem single_eq {t : GTask} (hsm : smallF t = true) : ∃ b, M_l32_single t = some b := by
  have := (small_good hsm).2.2
  rw [M_l32_single, M_l32_single_L2_eq t (by omega)]
  exact single2 t (small_effs hsm) t.Ops 0 fun _ h => h
theorem patA_loop {t : GTask} {p : List Int} : ∀ (r : List Int) (n : Nat) (last : Int), p.drop n = r → n ≤ 200 → Prev p n last → n + r.length ≤ 200 → Rg (M_l32_CertifyAbstract_L1_B t p) (M_l32_CertifyAbstract_L1_E t p) r n () = some (if ascR t.Vars.length last r = true then .inl () else .inr true)
  | [], _, _, _, _, _, _ => rfl
  | y :: r, n, last, hd, hn, hP, hb => by
    obtain ⟨hy, hd', hlt⟩ := drop_cons hd
    rw [List.length_cons] at hb
    rw [Rg, M_l32_CertifyAbstract_L1_B, ixv, sel_dec, sel_dec, sel_dec, List.length_map, ascR]
    have hl : -1 ≤ last := by rcases hP with ⟨-, rfl⟩ | ⟨m, -, -, h⟩ <;> omega
    by_cases h0 : y < 0
    · rw [if_pos h0, if_neg (by simp; intro h; omega)]
    · rw [if_neg h0]
      by_cases h1 : y < t.Vars.length
      · have ih := patA_loop (t := t) (p := p) r (n + 1) y hd' (by omega) (.inr ⟨n, rfl, hy, by omega⟩) (by omega)
        rw [if_neg (by omega)]
        rcases hP with ⟨rfl, rfl⟩ | ⟨m, rfl, hm, h2⟩
        · rw [if_neg (by omega), decide_eq_true (by omega), decide_eq_true h1, Bool.true_and, Bool.true_and]
          exact ih
        · rw [if_pos (by omega), w64 (by omega) (by omega), show (((m + 1 : Nat) : Int) - 1) = (m : Int) from by omega, ix_at hm, sel_dec]
          by_cases h3 : last ≥ y
          · rw [if_pos h3, if_neg (by simp; intro h; omega)]
          · rw [if_neg h3, decide_eq_true (by omega), decide_eq_true h1, Bool.true_and, Bool.true_and]
            exact ih
      · rw [if_pos (by omega), if_neg (by simp; intro _ h; omega)]
theorem tabL_mem (v p : List Int) (b : Int) : ∀ (r : List Int) (m : Nat) (n : Nogood), n ∈ tabL v p b r m ↔ ∃ (j : Nat) (y : Int), r[j]? = some y ∧ skipT b y = false ∧ n = (combF v p (m + j), if b < 0 then 0 else y)
  | [], m, n => by
    rw [tabL]
    constructor
    · intro h; cases h
    · rintro ⟨j, y, h, -⟩; simp at h
  | x :: r, m, n => by
    have ih := tabL_mem v p b r (m + 1) n
    have tail : (∃ (j : Nat) (y : Int), r[j]? = some y ∧ skipT b y = false ∧ n = (combF v p (m + 1 + j), if b < 0 then 0 else y)) → ∃ (j : Nat) (y : Int), (x :: r)[j]? = some y ∧ skipT b y = false ∧ n = (combF v p (m + j), if b < 0 then 0 else y) := by
      rintro ⟨j, y, h1, h2, h3⟩
      exact ⟨j + 1, y, by rw [List.getElem?_cons_succ]; exact h1, h2, by rw [h3, show m + 1 + j = m + (j + 1) from by omega]⟩
    rw [tabL]
    constructor
    · intro h
      split at h
      · exact tail (ih.1 h)
      · rename_i hs
        rcases List.mem_cons.1 h with rfl | h
        · exact ⟨0, x, rfl, Bool.eq_false_iff.2 hs, rfl⟩
        · exact tail (ih.1 h)
    · rintro ⟨j, y, h1, h2, h3⟩
      cases j with
      | zero =>
        simp only [List.getElem?_cons_zero, Option.some.injEq] at h1
        subst h1
        rw [h2, if_neg (by decide), h3, Nat.add_zero]
        exact List.mem_cons_self ..
      | succ j =>
        rw [List.getElem?_cons_succ] at h1
        have hm := ih.2 ⟨j, y, h1, h2, by rw [h3, show m + 1 + j = m + (j + 1) from by omega]⟩
        split
        · exact hm
        · exact List.mem_cons_of_mem _ hm
theorem tab_apart {t : GTask} {p : List Int} (hp : Pat t.Vars p) (b : Int) : ∀ (r : List Int) (m : Nat), m + r.length ≤ prodN (szs t.Vars p) → Apart t (tabL t.Vars p b r m)
  | [], _, _ => List.Pairwise.nil
  | y :: r, m, h => by
    rw [List.length_cons] at h
    have ih := tab_apart hp b r (m + 1) (by omega)
    rw [tabL]
    split
    · exact ih
    · refine List.pairwise_cons.2 ⟨fun n hn s hs h1 h2 => ?_, ih⟩
      obtain ⟨j, z, hj, -, rfl⟩ := (tabL_mem t.Vars p b r (m + 1) n).1 hn
      have hlt := (List.getElem?_eq_some_iff.1 hj).1
      have e1 := (hp.holds hs (by omega)).1 h1
      have e2 := (hp.holds hs (by omega)).1 h2
      omega
theorem tab_val {g : Nat} (hg : 100 ≤ g) (t : GTask) (ht : ShT t) (hck : checkF t = .nil) {p vals : List Int} (hp : Pat t.Vars p) (hP : prodN (szs t.Vars p) = vals.length) (hv : vals.length ≤ 600) {b : Int} (hb : -1 ≤ b ∧ b ≤ 1099511627776) (hr : ∀ x ∈ vals, 0 ≤ x ∧ x ≤ infD) :
    M_certify_FromTable g t p vals b = some ({ Bound := b, Nogoods := tabL t.Vars p b vals 0 }, .nil) := by
  have h4 := hp.four
  have hvs := checkF_vars hck
  have hq := pat_loop (p := p) hvs.2 p 0 1 (-1) (List.drop_zero ..) (by omega) (.inl ⟨rfl, rfl⟩) (by omega)
  rw [show ((0 : Nat) : Int) = 0 from rfl] at hq
  rw [show (min ((1 : Nat) : Int) 1125899906842624) = 1 from rfl, Nat.one_mul] at hq
  rw [M_certify_FromTable, check_eq t ht, hck, ob1_some]
  show ob1 (M_certify_FromTable_L1 t p ((((p.map cI).length : Int)).toNat + 1) 1 0) _ = _
  rw [M_certify_FromTable_L1_eq t p 1 (by omega), hq, ob1_some, if_pos hp.asc, osum_inl, List.length_map, hP, show (min ((vals.length : Nat) : Int) 1125899906842624 != ((vals.length : Nat) : Int)) = false from by rw [bne_eq_false_iff_eq]; omega, sel_ff, bounded_eq, ob1_some, decide_eq_true hb]
  have hany : vals.any badV = false := by
    rw [Bool.eq_false_iff]
    intro h
    obtain ⟨x, hx, h2⟩ := List.any_eq_true.1 h
    have := hr x hx
    unfold infD at this
    unfold badV at h2
    rw [Bool.or_eq_true, decide_eq_true_iff, decide_eq_true_iff] at h2
    omega
  rw [containsI_eq (q := badV) (by unfold Sh; omega) (fun y => by rw [M_certify_FromTable_1, sel_dec, badV]; by_cases h : y < 0 <;> simp [h]), hany]
  have htab := tab_loop (vals := vals) (b := b) hg hvs.2 (fun y hy => hp.mem hy) (by omega) vals 0 [] (by omega) (by simp)
  rw [show ((0 : Nat) : Int) = 0 from rfl, List.nil_append] at htab
  have e2 := M_certify_FromTable_L2_eq t p vals b g [] (by omega)
  rw [List.length_map] at e2
  rw [Bool.not_true, sel_ff, ob1_some, sel_ff, ob1_some, osum_inl, e2]
  exact htab
theorem good_initA {t : GTask} (h : goodF t = true) : stateF t.Vars t.Init = true := by
  unfold goodF at h
  simp only [Bool.and_eq_true] at h
  exact h.2.2.1
section
variable {t : GTask} (hf : Fit t) {p d : List Int} (hp : Pat t.Vars p) (hd : TFix t p d)
include hf hp hd
theorem tab_certP {b : Int} (hb : b = -1 ∨ (1 ≤ b ∧ b ≤ 1000)) : CertP t.Vars { Bound := b, Nogoods := tabL t.Vars p b d 0 } := by
  have hv : t.Vars.length ≤ 64 := by have := hf.cap.len; omega
  have hl := tabL_len t.Vars p b d 0
  have hfew := hp.few
  have h81 := hf.prod
  have hlen := hd.g.len
  have hmem := fun n (hn : n ∈ tabL t.Vars p b d 0) => (tabL_mem t.Vars p b d 0 n).1 hn
  refine ⟨by show -1 ≤ b; omega, by show b ≤ _; omega, by show (tabL t.Vars p b d 0).length ≤ 4096; omega, fun n hn => ?_, fun n hn => ?_, fun n hn => ?_, fun n hn hb0 => ?_, fun n hn hb0 => ?_⟩
  · obtain ⟨j, y, -, -, rfl⟩ := hmem n hn
    exact hp.prop _
  · obtain ⟨j, y, -, -, rfl⟩ := hmem n hn
    rw [frmF, propF_vF' (hp.prop _), Bool.true_and]
    exact prop_frm hv hf.cap.dom (hp.prop _)
  · obtain ⟨j, y, h1, -, rfl⟩ := hmem n hn
    have := (hd.g.rng y (List.mem_of_getElem? h1)).1
    show 0 ≤ if b < 0 then 0 else y
    split <;> omega
  · obtain ⟨j, y, h1, h2, rfl⟩ := hmem n hn
    have hb0' : 0 ≤ b := hb0
    unfold skipT at h2
    rw [Bool.or_eq_false_iff, Bool.and_eq_false_iff, decide_eq_false_iff_not, decide_eq_false_iff_not] at h2
    show (if b < 0 then 0 else y) < b
    rw [if_neg (by omega)]
    omega
  · have hb0' : b < 0 := hb0
    obtain ⟨j, y, h1, h2, rfl⟩ := hmem n hn
    show (if b < 0 then 0 else y) = 0
    rw [if_pos hb0']
omit hf hd in
theorem tab_of {b : Int} {s : List Int} (hs : stateF t.Vars s = true) {y : Int} (hy : d[(pfF t.Vars s p 0).toNat]? = some y) (h : skipT b y = false) : ∃ n ∈ tabL t.Vars p b d 0, n.2 = (if b < 0 then 0 else y) ∧ holdsF s n.1 = true := by
  obtain ⟨k, hk, hkl⟩ := hp.pf hs
  rw [hk, Int.toNat_natCast] at hy
  refine ⟨(combF t.Vars p (0 + k), if b < 0 then 0 else y), (tabL_mem t.Vars p b d 0 _).2 ⟨k, y, hy, h, rfl⟩, rfl, ?_⟩
  rw [Nat.zero_add]
  exact (hp.holds hs hkl).2 hk
omit hf in
theorem tab_is {b : Int} {n : Nogood} (hn : n ∈ tabL t.Vars p b d 0) {s : List Int} (hs : stateF t.Vars s = true) (hh : holdsF s n.1 = true) : ∃ y, d[(pfF t.Vars s p 0).toNat]? = some y ∧ skipT b y = false ∧ n.2 = if b < 0 then 0 else y := by
  obtain ⟨j, y, h1, h2, rfl⟩ := (tabL_mem t.Vars p b d 0 n).1 hn
  have hj : j < prodN (szs t.Vars p) := by rw [← hd.g.len]; exact (List.getElem?_eq_some_iff.1 h1).1
  rw [Nat.zero_add] at hh
  have := (hp.holds hs hj).1 hh
  exact ⟨y, by rw [this, Int.toNat_natCast]; exact h1, h2, rfl⟩
theorem tab_acc {b : Int} (hb : b = -1 ∨ (1 ≤ b ∧ b ≤ 1000)) {y0 : Int} (hy0 : d[(pfF t.Vars t.Init p 0).toNat]? = some y0) (hat : (b = -1 → y0 = infD) ∧ (1 ≤ b → b ≤ y0)) : Acc t { Bound := b, Nogoods := tabL t.Vars p b d 0 } := by
  have hin := good_initA hf.good
  have hskip : ∀ y, skipT b y = false ↔ (0 ≤ b → y < b) ∧ y ≠ infD := fun y => by
    unfold skipT infD
    rw [Bool.or_eq_false_iff, Bool.and_eq_false_iff, decide_eq_false_iff_not, decide_eq_false_iff_not, beq_eq_false_iff_ne]
    constructor
    · rintro ⟨h1, h2⟩; exact ⟨fun _ => by omega, h2⟩
    · rintro ⟨h1, h2⟩; exact ⟨by by_cases h : b ≥ 0; exact .inr (by have := h1 h; omega); exact .inl h, h2⟩
  refine ⟨fun n hn => ?_, fun _ s hs hh => ?_, fun n hn o ho hsk s hs hi => ?_⟩
  · rw [Bool.eq_false_iff]
    intro hh
    obtain ⟨y, h1, h2, -⟩ := tab_is hp hd hn hin hh
    rw [hy0] at h1
    obtain rfl := Option.some.inj h1
    have := (hskip _).1 h2
    rcases hb with rfl | hb
    · exact this.2 (hat.1 rfl)
    · have := this.1 (by omega)
      have := hat.2 hb.1
      omega
  · have hst := (allF_mem t s).1 hs
    obtain ⟨n, hn, h1, h2⟩ := tab_of hp (b := b) hst (hd.g.goal s hst hh) ((hskip 0).2 ⟨by omega, by decide⟩)
    refine List.any_eq_true.2 ⟨n, hn, ?_⟩
    rw [h2, Bool.and_true, decide_eq_true_iff, h1]
    split <;> omega
  · have hst := (allF_mem t s).1 hs
    unfold inF at hi
    rw [Bool.and_eq_true] at hi
    have hnx := next_state hf.good hst ho
    have hcost := good_cost hf.good ho
    obtain ⟨x, x1, x2, x3⟩ := tab_is hp hd hn hnx hi.2
    obtain ⟨k, hk, hkl⟩ := hp.pf hst
    obtain ⟨y, hy⟩ : ∃ y, d[(pfF t.Vars s p 0).toNat]? = some y := ⟨_, List.getElem?_eq_getElem (by rw [hk, Int.toNat_natCast, hd.g.len]; exact hkl)⟩
    have hxr := hd.g.rng x (List.mem_of_getElem? x1)
    have hxs := (hskip x).1 x2
    have hxlt : x < infD := by unfold infD at hxr hxs ⊢; omega
    have hstep := hd.step s o x y hst ho hi.1 x1 hy hxlt
    have hbx := hd.g.bnd x (List.mem_of_getElem? x1) hxs.2
    have hfin := finN_le d
    have hfew := hp.few
    have h81 := hf.prod
    have hlen := hd.g.len
    unfold skipO at hsk
    rw [decide_eq_false_iff_not] at hsk
    have hsk' : ¬ (0 ≤ b ∧ b ≤ n.2 + o.Cost) := hsk
    have hy2 : (0 ≤ b → y < b) ∧ y ≠ infD := by
      refine ⟨fun h => ?_, by unfold infD; omega⟩
      rw [if_neg (by omega)] at x3
      omega
    obtain ⟨m, hm, m1, m2⟩ := tab_of hp (b := b) hst hy ((hskip y).2 hy2)
    refine List.any_eq_true.2 ⟨m, hm, ?_⟩
    rw [m2, Bool.and_true, decide_eq_true_iff, m1]
    show _ ≤ if 0 ≤ b then n.2 + o.Cost else 0
    by_cases h : b < 0
    · rw [if_pos h, if_neg (by omega)]; exact Int.le_refl _
    · rw [if_neg h] at x3 ⊢
      rw [if_pos (by omega), x3]
      exact hstep
theorem tab_init {b : Int} (hb : 1 ≤ b ∧ b ≤ 1000) {y0 : Int} (hy0 : d[(pfF t.Vars t.Init p 0).toNat]? = some y0) (hat : y0 < b) : verF t { Bound := b, Nogoods := tabL t.Vars p b d 0 } 1048576 = .no 20 := by
  have hin := good_initA hf.good
  obtain ⟨n, hn, -, h2⟩ := tab_of hp (b := b) hin hy0 (by
    unfold skipT
    rw [Bool.or_eq_false_iff, Bool.and_eq_false_iff, decide_eq_false_iff_not, decide_eq_false_iff_not, beq_eq_false_iff_ne]
    exact ⟨.inr (by omega), by omega⟩)
  unfold verF whereF
  rw [(good_check t).1 hf.good]
  simp only
  rw [(properF_nil t.Vars _).2 (tab_certP hf hp hd (.inr hb))]
  simp only
  unfold whereC
  rw [if_pos (List.any_eq_true.2 ⟨n, hn, h2⟩)]
end
theorem abstract_true (t : GTask) (ht : ShT t) (p : List Int) (b : Int) : M_l32_CertifyAbstract 1000000000000000000 t p b = some true := by
  rw [M_l32_CertifyAbstract, awakeE, fit_eq t ht, ob1_some]
  cases hfit : fitF t with
  | false => rfl
  | true =>
    have hf := fit_of hfit
    obtain ⟨bs, hbs⟩ := single_eq hf.small
    rw [Bool.not_true, sel_ff, hbs, ob1_some]
    cases bs with
    | false => rfl
    | true =>
      rw [Bool.not_true, sel_ff, sel_dec, List.length_map]
      by_cases hops : (t.Ops.length : Int) > 6
      · rw [if_pos hops]; rfl
      · rw [if_neg hops, sel_dec, List.length_map]
        by_cases h4 : (p.length : Int) > 4
        · rw [if_pos h4]; rfl
        · rw [if_neg h4, ob1_some, Bool.not_true, sel_ff, ob1_some, osum_inl]
          have hL1 := M_l32_CertifyAbstract_L1_eq t p (by omega)
          rw [List.length_map] at hL1
          have hpat := patA_loop (t := t) (p := p) p 0 (-1) (List.drop_zero ..) (by omega) (.inl ⟨rfl, rfl⟩) (by omega)
          rw [show ((0 : Nat) : Int) = 0 from rfl] at hpat
          rw [hL1, hpat, ob1_some]
          by_cases hasc : ascR t.Vars.length (-1) p = true
          · rw [if_pos hasc, osum_inl]
            have hp : Pat t.Vars p := ⟨hasc, by omega, hf.dom⟩
            have hgood := hf.good
            have hin := good_initA hgood
            have h81 := hf.prod
            have hgl : t.Goal.length ≤ 1000000 := by
              have := prop_len (vars := t.Vars) (by have := hf.cap.len; omega) (good_goal hgood); omega
            obtain ⟨d, d1, d2⟩ := abs_eq hp hf.small h81 hgl 1000000000000000000 (Nat.le_refl _)
            obtain ⟨k, hk, hkl⟩ := hp.pf hin
            have hkd : k < d.length := by rw [d2.g.len]; exact hkl
            obtain ⟨y, hy⟩ : ∃ y, d[k]? = some y := ⟨_, List.getElem?_eq_getElem hkd⟩
            have hy' : d[(pfF t.Vars t.Init p 0).toNat]? = some y := by rw [hk, Int.toNat_natCast]; exact hy
            have hyr : 0 ≤ y ∧ y ≤ 1125899906842624 := d2.g.rng y (List.mem_of_getElem? hy)
            have hfew := hp.few
            have hdl := d2.g.len
            have hck := (good_check t).1 hgood
            have hclip : M_b_Clip b 1 1000 = some (max 1 (min b 1000)) := rfl
            obtain ⟨z, hz⟩ : ∃ z, max 1 (min b 1000) = z := ⟨_, rfl⟩
            have hzb : 1 ≤ z ∧ z ≤ 1000 := by omega
            have hsh : ∀ c : GCertificate, CertP t.Vars c → ShC c := fun c hcp => ⟨by have := hcp.len; unfold Sh; omega, fun n hn => prop_sh (by have := hf.cap.len; omega) (hcp.prop n hn)⟩
            have hc1 := tab_certP hf hp d2 (.inr hzb)
            have hc2 := tab_certP hf hp d2 (.inl rfl)
            rw [d1, ob1_some, proj_eq hp h81 hin, ob1_some, hk, ix_at hy, hclip, ob1_some, hz, tab_val (by decide) t ht hck hp hdl.symm (by omega) ⟨by omega, by omega⟩ d2.g.rng, ob2_some]
            show ob1 (M_checker_Verify 1000000000000000000 t _ 1048576) _ = _
            rw [verify_eq t ht _ (hsh _ hc1) 1048576 _ (by decide), ob1_some, tab_val (by decide) t ht hck hp hdl.symm (by omega) ⟨by omega, by omega⟩ d2.g.rng, ob2_some]
            by_cases hat : z > y
            · rw [tab_init hf hp d2 hzb hy' (by omega), is_no, ob1_some, sel_dec, if_pos hat, is_no]; rfl
            · have hA := tab_acc hf hp d2 (.inr hzb) hy' ⟨fun h => by omega, fun _ => by omega⟩
              rcases acc_ver hf hc1 hA 1048576 with hv | hv
              · rw [hv, sel_dec, if_neg hat]
                show sel (decide (y < 1125899906842624)) _ _ = _
                rw [sel_dec]
                by_cases hyi : y < 1125899906842624
                · rw [if_pos hyi]
                · have hyi' : y = infD := by unfold infD; omega
                  have hA2 := tab_acc hf hp d2 (.inl rfl) hy' ⟨fun _ => hyi', fun h => by omega⟩
                  rw [if_neg hyi, verify_eq t ht _ (hsh _ hc2) 1048576 _ (by decide), ver_wt hf hc2 hA2 (by omega) (tab_apart hp (-1) d 0 (by omega))]
                  rfl
              · rw [hv]; rfl
          · rw [if_neg hasc]; rfl
end Go.Proofs.YtohjegemooakpaaGreat.Am
namespace Go.Proofs.YtohjegemooakpaaGreat
open Go.RowKit Go.ChangeShapes Go.WideShapes Go.Deep Go.Joins

def I64 (x : Int) : Prop := -9223372036854775808 ≤ x ∧ x ≤ 9223372036854775807
theorem I64.of {x : Int} (h : (Lit.int .i64 x).wf = true) : I64 x := by
  have := bounds_i64 h
  exact this

section
variable {H : Type} {enc : TypeId × Value → H} {P : Program} {w : World} {base : Nat} {spare : Nat → Bool} {held : Bool}

def Sized (P : Program) (t : TypeId) (d : DataW H) : Prop := ∀ n ∈ d.weights P t, n ≤ reachBytes
theorem sized_arg {ts : List TypeId} {ds : List (DataW H)} (h : (DataW.weightsEach P ts ds).all (· ≤ reachBytes) = true) {j : Nat} {t : TypeId} {d : DataW H} (ht : ts[j]? = some t) (hd : ds[j]? = some d) : Sized P t d :=
  fun n hn => of_decide_eq_true (List.all_eq_true.1 h n (DataW.weights_mem_each ht hd n hn))
theorem sized_field {t : TypeId} {fs : Array Field} {parts : List (DataW H)} (h : Sized P t (.agg parts)) (hu : P.underlying t = some (.struct fs)) {j : Nat} {f : Field} {d : DataW H} (hf : fs[j]? = some f) (hd : parts[j]? = some d) : Sized P f.type d :=
  fun n hn => h n (by
    simp only [DataW.weights, hu]
    exact DataW.weights_mem_each (j := j) (by simp [List.getElem?_map, hf]) hd n hn)
theorem weightsAll_mem {e : TypeId} : ∀ {l : List (DataW H)} {d : DataW H}, d ∈ l → ∀ n ∈ d.weights P e, n ∈ DataW.weightsAll P e l
  | x :: l, d, hd, n, hn => by
    simp only [DataW.weightsAll, List.mem_append]
    rcases List.mem_cons.1 hd with rfl | h
    · exact Or.inl hn
    · exact Or.inr (weightsAll_mem h n hn)
theorem sized_elem {t e : TypeId} {elems sp : List (DataW H)} (h : Sized P t (.slice elems sp)) (hu : P.underlying t = some (.slice e)) {d : DataW H} (hd : d ∈ elems) : Sized P e d :=
  fun n hn => h n (by
    simp only [DataW.weights, hu, List.mem_cons, List.mem_append]
    exact Or.inr (Or.inl (weightsAll_mem hd n hn)))
theorem sized_len {t e : TypeId} {elems sp : List (DataW H)} (h : Sized P t (.slice elems sp)) (hu : P.underlying t = some (.slice e)) : elems.length * P.bytesOf e ≤ 140737488355328 := by
  have h1 := h ((elems.length + sp.length) * P.bytesOf e) (by simp [DataW.weights, hu])
  have h2 : elems.length * P.bytesOf e ≤ (elems.length + sp.length) * P.bytesOf e := Nat.mul_le_mul_right _ (by omega)
  have h3 : reachBytes ≤ 140737488355328 := by decide
  omega

end

theorem spot_of_cell {w : World} {p : Addr} {v : Value} (h : w.cell? p = some v) : p.spot = none := by
  unfold World.cell? at h
  split at h
  · split at h
    · cases h
    · rename_i hs; simpa using hs
  · cases h
theorem addr_of_cell {w : World} {a : Addr} {k : Nat} {v : Value} (h0 : ∃ u, w.cell? (a.add 0) = some u) (h : w.cell? (a.add k) = some v) : a = ⟨a.block, a.off, none⟩ ∧ w.cell? ⟨a.block, a.off + k, none⟩ = some v := by
  obtain ⟨u, hu⟩ := h0
  have hs := spot_of_cell hu
  obtain ⟨b, off, sp⟩ := a
  simp [Addr.add] at hs
  subst hs
  refine ⟨rfl, ?_⟩
  rw [← h]
  congr 1
  unfold Addr.add
  split
  · subst k; rfl
  · rfl

theorem list_of {α : Type} (n : Nat) (R : Nat → α → Prop) (h : ∀ i, i < n → ∃ x, R i x) : ∃ l : List α, l.length = n ∧ ∀ k x, l[k]? = some x → R k x := by
  induction n with
  | zero => exact ⟨[], rfl, fun k x hx => by simp at hx⟩
  | succ n ih =>
    obtain ⟨l, hl, hr⟩ := ih (fun i hi => h i (by omega))
    obtain ⟨x, hx⟩ := h n (by omega)
    refine ⟨l ++ [x], by simp [hl], fun k y hy => ?_⟩
    by_cases hk : k < n
    · rw [List.getElem?_append_left (by omega)] at hy
      exact hr k y hy
    · rw [List.getElem?_append_right (by omega)] at hy
      have hk' : k - l.length = 0 := by
        have := (List.getElem?_eq_some_iff.1 hy).1
        simp at this
        omega
      rw [hk'] at hy
      simp at hy
      subst hy
      obtain rfl : k = n := by omega
      exact hx

variable {H : Type} {enc : TypeId × Value → H} {w : World} {base : Nat} {spare : Nat → Bool} {held : Bool}
end Go.Proofs.YtohjegemooakpaaGreat
namespace Go.Proofs.YtohjegemooakpaaGreat.Am
open Go.RowKit Go.ChangeShapes Go.WideShapes Go.Deep Go.Joins

abbrev mZ : MM := mO (fun _ => False)
theorem noZ (b : Nat) : ¬ Owned nov mZ b := fun h => owned_nov.1 h

section
variable {H : Type} {enc : TypeId × Value → H} {P : Program} {w : World} {base : Nat} {spare : Nat → Bool} {held : Bool}
def CellsRv (w : World) (es : List AV) (cs : List Value) : Prop := es.length = cs.length ∧ (∀ (j : Nat) (y : AV) (u : Value), es[j]? = some y → cs[j]? = some u → RV w nov mZ y u ∧ u.oneCell' = true) ∧ ∀ y ∈ es, Fr y
def Opens (enc : TypeId × Value → H) (P : Program) (w : World) (base : Nat) (spare : Nat → Bool) (held : Bool) (t : TypeId) {α : Type} (en : α → List AV) (R : α → Prop) : Prop :=
  ∀ (fuel : Nat) (cs : List Value) (x : DataW H × List MemPlace), DataW.trod enc P w base spare held fuel t cs = some x → Sized P t x.1 → ∃ a, R a ∧ CellsRv w (en a) cs

theorem cells_one1 {y : AV} {u : Value} (h : RV w nov mZ y u) (h1 : u.oneCell' = true) (hf : Fr y) : CellsRv w [y] [u] := by
  refine ⟨rfl, fun j z v hz hv => ?_, fun z hz => by simp at hz; subst hz; exact hf⟩
  cases j with
  | zero => simp at hz hv; subst hz hv; exact ⟨h, h1⟩
  | succ j => simp at hz
theorem opens_int {t : TypeId} {k : IntKind} (ht : P.underlying t = some (.int k)) : Opens enc P w base spare held t (fun z : Int => [.c (.int k z)]) (fun z => (Lit.int k z).wf = true) := by
  intro fuel cs x h _
  obtain ⟨z, rfl, _, wz⟩ := DataW.trod_int ht h
  exact ⟨z, wz, cells_one1 (.c _) rfl (.c _)⟩
theorem opens_slice {t e : TypeId} {α : Type} {en : α → List AV} {R : α → Prop} {sz by_ : Nat} (ht : P.underlying t = some (.slice e)) (hc : P.cellsOf e = sz) (hb : P.bytesOf e = by_) (hby : 0 < by_) (hsz : 0 < sz) (he : Opens enc P w base spare held e en R) :
    Opens enc P w base spare held t (fun l : List α => [.sl sz (l.map en)]) (fun l => l.length * by_ ≤ 140737488355328 ∧ ∀ x ∈ l, R x) := by
  intro fuel cs x h hs
  rcases open_slice ht h with ⟨rfl, _⟩ | ⟨a, len, cap, m, n, D, Pl, rfl, _, hl, hm, hmm, rfl, hi⟩
  · refine ⟨[], ⟨by simp, by simp⟩, cells_one1 ?_ rfl (.sl (fun e he => by cases he))⟩
    exact RV.sl (l := []) (b := 0) (off := 0) (f := fun _ _ => undef) (fun h => absurd rfl h) (Nat.zero_le _) (by simp) (fun k e h => by simp at h) (fun k j e x h => by simp at h) (fun k j e x h => by simp at h) (fun e he => by cases he)
  · have hlen := sized_len hs ht
    rw [hb] at hlen
    simp only [List.length_map, List.length_range] at hlen
    have hml : len ≤ m := by rw [hmm]; split <;> omega
    have hcell : ∀ i, i < len → ∃ z : α, R z ∧ ∃ cs', CellsRv w (en z) cs' ∧ cs'.length = sz ∧ ∀ j, j < sz → w.cell? (a.add (i * sz + j)) = cs'[j]? := by
      intro i hi'
      obtain ⟨cs', hcc, ht'⟩ := hi i (by omega)
      rw [hc] at hcc
      obtain ⟨z, hz, hcr⟩ := he n cs' _ ht' (sized_elem hs ht (List.mem_map.2 ⟨i, by simpa using hi', rfl⟩))
      obtain ⟨_, hcl', hat⟩ := World.cells?_some hcc
      exact ⟨z, hz, cs', hcr, hcl', fun j hj => by rw [← hat j hj, Go.Deep.add_add]⟩
    obtain ⟨l, hl', hat⟩ := list_of len _ hcell
    have hR : ∀ x ∈ l, R x := fun x hx => by
      obtain ⟨k, hk⟩ := List.getElem?_of_mem hx
      exact (hat k x hk).1
    have hfr : FrL (l.map en) := by
      intro e he
      obtain ⟨x, hx, rfl⟩ := List.mem_map.1 he
      obtain ⟨k, hk⟩ := List.getElem?_of_mem hx
      obtain ⟨_, cs', hcr, _⟩ := hat k x hk
      exact hcr.2.2
    refine ⟨l, ⟨by rw [hl']; exact hlen, hR⟩, cells_one1 ?_ rfl (.sl hfr)⟩
    have key : ∀ (k j : Nat) (e : List AV) (y : AV), (l.map en)[k]? = some e → e[j]? = some y → e.length = sz ∧ ∃ u, w.cell? ⟨a.block, a.off + (k * sz + j), none⟩ = some u ∧ u.oneCell' = true ∧ RV w nov mZ y u ∧ a = ⟨a.block, a.off, none⟩ ∧ a.block < w.heap.size := by
      intro k j e y hk hj
      rw [List.getElem?_map] at hk
      cases hx : l[k]? with
      | none => rw [hx] at hk; cases hk
      | some z =>
        rw [hx] at hk
        simp at hk
        subst hk
        obtain ⟨_, cs', ⟨c1, c2, _⟩, c4, c5⟩ := hat k z hx
        have hjl : j < sz := by rw [← c4, ← c1]; exact (List.getElem?_eq_some_iff.1 hj).1
        have hcj := c5 j hjl
        have hget : cs'[j]? = some (cs'[j]'(by omega)) := List.getElem?_eq_getElem _
        rw [hget] at hcj
        obtain ⟨r1, r2⟩ := c2 j y _ hj hget
        have h0 : 0 < len := by have := (List.getElem?_eq_some_iff.1 hx).1; omega
        obtain ⟨_, _, cs0, ⟨_, _, _⟩, d4, d5⟩ := hcell 0 h0
        have hz0 := d5 0 hsz
        rw [List.getElem?_eq_getElem (by omega)] at hz0
        obtain ⟨e1, e2⟩ := addr_of_cell ⟨_, by simpa using hz0⟩ hcj
        exact ⟨by rw [c1, c4], _, e2, r2, r1, e1, lt_of_cell (p := ⟨a.block, a.off + (k * sz + j), none⟩) e2⟩
    have hlen2 : (l.map en).length = len := by simp [hl']
    have := RV.sl (w := w) (vs := nov) (m := mZ) (sz := sz) (l := l.map en) (A := some a) (cap := cap) (b := a.block) (off := a.off) (f := fun k j => (w.cell? ⟨a.block, a.off + (k * sz + j), none⟩).getD undef)
      (fun hne => ?_) (by omega) (by rw [hlen2]; exact Nat.le_trans (Nat.le_mul_of_pos_right _ hby) hlen) (fun k e hk => ?_) (fun k j e y hk hj => ?_) (fun k j e y hk hj => ?_) hfr
    · rw [hlen2] at this
      exact this
    · have h0 : 0 < (l.map en).length := List.length_pos_iff.2 hne
      have hk := List.getElem?_eq_getElem h0
      obtain ⟨x0, hx0, hx0'⟩ : ∃ x0, l[0]? = some x0 ∧ (l.map en)[0] = en x0 := by
        have h1 : 0 < l.length := by simpa using h0
        exact ⟨l[0], List.getElem?_eq_getElem h1, by simp⟩
      obtain ⟨_, cs', ⟨c1, _, _⟩, c4, _⟩ := hat 0 x0 hx0
      have hel : 0 < ((l.map en)[0]).length := by rw [hx0', c1, c4]; exact hsz
      obtain ⟨_, _, _, _, _, q1, q2⟩ := key 0 0 _ _ hk (List.getElem?_eq_getElem hel)
      exact ⟨by rw [← q1], noZ _, q2⟩
    · rw [List.getElem?_map] at hk
      cases hx : l[k]? with
      | none => rw [hx] at hk; cases hk
      | some z =>
        rw [hx] at hk
        simp at hk
        subst hk
        obtain ⟨_, cs', ⟨c1, _, _⟩, c4, _⟩ := hat k z hx
        rw [c1, c4]
    · obtain ⟨_, u, q1, q2, _⟩ := key k j e y hk hj
      rw [q1]
      exact ⟨rfl, q2⟩
    · obtain ⟨_, u, q1, _, q3, _⟩ := key k j e y hk hj
      rw [q1]
      exact q3

def OpensF (enc : TypeId × Value → H) (P : Program) (w : World) (base : Nat) (spare : Nat → Bool) (held : Bool) (fs : List Field) (off tot : Nat) {α : Type} (en : α → List AV) (R : α → Prop) : Prop :=
  ∀ (fuel : Nat) (cs : List Value) (xs : List (DataW H × List MemPlace)), cs.length = tot → xs.length = fs.length → (∀ (i : Nat) (f : Field), fs[i]? = some f → DataW.trod enc P w base spare held fuel f.type ((cs.drop f.offset).take (P.cellsOf f.type)) = xs[i]?) →
    (∀ (i : Nat) (f : Field) (x : DataW H × List MemPlace), fs[i]? = some f → xs[i]? = some x → Sized P f.type x.1) → ∃ a, R a ∧ CellsRv w (en a) (cs.drop off)
theorem cells_append {a b : List AV} {xs ys : List Value} (h1 : CellsRv w a xs) (h2 : CellsRv w b ys) : CellsRv w (a ++ b) (xs ++ ys) := by
  refine ⟨by rw [List.length_append, List.length_append, h1.1, h2.1], fun j y u hy hu => ?_, fun y hy => ?_⟩
  · rcases Nat.lt_or_ge j a.length with hlt | hge
    · rw [List.getElem?_append_left hlt] at hy
      rw [List.getElem?_append_left (by rw [← h1.1]; exact hlt)] at hu
      exact h1.2.1 j y u hy hu
    · rw [List.getElem?_append_right hge] at hy
      rw [List.getElem?_append_right (by rw [← h1.1]; exact hge)] at hu
      rw [h1.1] at hy
      exact h2.2.1 _ y u hy hu
  · rcases List.mem_append.1 hy with h | h
    · exact h1.2.2 y h
    · exact h2.2.2 y h
theorem opensF_last {f : Field} {off tot : Nat} {α : Type} {en : α → List AV} {R : α → Prop} (ho : f.offset = off) (htot : off + P.cellsOf f.type = tot) (h : Opens enc P w base spare held f.type en R) : OpensF enc P w base spare held [f] off tot en R := by
  intro fuel cs xs hcl hx ht hs
  obtain ⟨x, rfl⟩ := List.length_eq_one_iff.1 hx
  have h1 := ht 0 f rfl
  obtain ⟨a, ha, hc⟩ := h fuel _ x h1 (hs 0 f x rfl rfl)
  refine ⟨a, ha, ?_⟩
  rw [ho, List.take_of_length_le (by simp; omega)] at hc
  exact hc
theorem opensF_cons {f : Field} {fs : List Field} {off off' tot : Nat} {α β : Type} {en : α → List AV} {R : α → Prop} {en' : β → List AV} {R' : β → Prop} (ho : f.offset = off) (hoff : off + P.cellsOf f.type = off') (h : Opens enc P w base spare held f.type en R) (h' : OpensF enc P w base spare held fs off' tot en' R') :
    OpensF enc P w base spare held (f :: fs) off tot (fun p : α × β => en p.1 ++ en' p.2) (fun p => R p.1 ∧ R' p.2) := by
  intro fuel cs xs hcl hx ht hs
  cases xs with
  | nil => simp at hx
  | cons x xs =>
    obtain ⟨a, ha, hc⟩ := h fuel _ x (ht 0 f rfl) (hs 0 f x rfl rfl)
    obtain ⟨b, hb, hc'⟩ := h' fuel cs xs hcl (by simpa using hx) (fun i g hg => by simpa using ht (i + 1) g (by simpa using hg)) (fun i g y hg hy => hs (i + 1) g y (by simpa using hg) (by simpa using hy))
    refine ⟨(a, b), ⟨ha, hb⟩, ?_⟩
    rw [ho] at hc
    have : cs.drop off = (cs.drop off).take (P.cellsOf f.type) ++ cs.drop off' := by
      rw [← hoff, ← List.drop_drop, List.take_append_drop]
    rw [this]
    exact cells_append hc hc'
theorem opens_struct {t : TypeId} {fs : Array Field} {α : Type} {en : α → List AV} {R : α → Prop} (ht : P.underlying t = some (.struct fs)) (h : OpensF enc P w base spare held fs.toList 0 (P.cellsOf t) en R) : Opens enc P w base spare held t en R := by
  intro fuel cs x hx hs
  obtain ⟨xs, n, _, rfl, hcl, hxl, hf⟩ := DataW.trod_struct ht hx
  obtain ⟨a, ha, hc⟩ := h n cs xs hcl (by simpa using hxl) (fun i f hi => hf i f (by simpa using hi)) (fun i f y hi hy => sized_field hs ht (j := i) (by simpa using hi) (by simp [List.getElem?_map, hy]))
  exact ⟨a, ha, by simpa using hc⟩

theorem agg_rv {es : List AV} {us : Array Value} (h : CellsRv w es us.toList) : RV w nov mZ (.agg es) (.agg us) :=
  .agg (by rw [h.1]; simp) (fun j y u hy hu => (h.2.1 j y u hy (by simpa using hu)).1)
theorem one_rv {y : AV} {u : Value} (h : CellsRv w [y] [u]) : RV w nov mZ y u := (h.2.1 0 y u rfl rfl).1
end
end Go.Proofs.YtohjegemooakpaaGreat.Am
namespace Go.Proofs.YtohjegemooakpaaGreat
open Go.RowKit Go.WideShapes Go.ChangeShapes Go.ChangeAt
section
variable {H : Type} {enc : TypeId × Value → H} {P : Program}
theorem post_of_below {f : Func} {s : ChangeSpec} {apart fresh handsOn again : Bool} {W W' : World} {args : Array Value} {v : Value} {ds gs : List (DataW H)} {before pa pv : List MemPlace}
    (hW : DataW.Whole enc P f.params.toList s.vars apart W args.toList ds gs before)
    (hres : ∀ (b : Nat) (sp : Nat → Bool) (hd : Bool), DataW.TrodAll enc P W' b sp hd f.resultTypes.toList (v.resultList f.resultTypes.size) (s.fn H (ds ++ gs)).results [])
    (hargs : ∀ sp : Nat → Bool, (∀ p ∈ before, sp p.block = true) → DataW.TrodAll enc P W' 0 sp true f.params.toList args.toList (s.fn H (ds ++ gs)).args pa)
    (hvars : ∀ sp : Nat → Bool, (∀ p ∈ before, sp p.block = true) → DataW.TrodVars enc P W' sp s.vars (s.fn H (ds ++ gs)).vars pv)
    (hps : before = pa ++ pv) (hb : Below W.heap.size W W')
    (hok : ∀ (j : Nat) (t : TypeId) (r : Value), f.resultTypes[j]? = some t → (v.resultList f.resultTypes.size)[j]? = some r → Value.okWide P W' .any 0 t r) :
    s.post enc P f apart fresh handsOn again W args v W' := by
  have hlt : ∀ p ∈ before, p.block < W.heap.size := fun p hp => hW.lt p hp
  have hold : ∀ p ∈ before, (fun b => decide (b < W.heap.size)) p.block = true := fun p hp => by simpa using hlt p hp
  refine ⟨ds, gs, before, [], pa, pv, hW, hres _ _ _, hargs _ hold, hvars _ hold, World.keptBut_mono (fun p hp => ⟨hp, ?_⟩) (hb.frame (· ∈ before)), fun _ => ?_⟩
  · rw [hps, List.mem_append] at hp
    exact Or.inr hp
  · obtain ⟨_, _, _, _, _, hz, hn⟩ := hW
    refine ⟨hok, _, _, ([] ++ pa) ++ pv, ⟨[] ++ pa, pv, trodAll_append (hargs _ (fun _ _ => rfl)) (hres _ _ _), hvars _ (fun _ _ => rfl), rfl, ?_, ?_⟩, ?_⟩
    · intro b off hp
      have hin : MemPlace.cell b off ∈ before := by rw [hps]; simpa using hp
      rw [hb.frozen (hlt _ hin)]
      exact hz b off hin
    · intro ha
      have := hn ha
      rw [hps] at this
      simpa using this
    · intro p hp _
      rw [hps]
      simpa using hp

theorem trodAll_keep (hl : laidOutB P = true) {W W' : World} (hb : Below W.heap.size W W') (sp : Nat → Bool) (ts : List TypeId) : ∀ (vs : List Value) (ds : List (DataW H)) (ps : List MemPlace), (∀ t ∈ ts, P.readableRec t = true ∧ t < P.types.size) →
    DataW.TrodAll enc P W 0 (fun _ => true) true ts vs ds ps → (∀ x ∈ ps, x.block < W.heap.size) → (∀ x ∈ ps, sp x.block = true) → DataW.TrodAll enc P W' 0 sp true ts vs ds ps := by
  induction ts with
  | nil =>
    intro vs ds ps _ h _ _
    obtain ⟨rfl, rfl, rfl⟩ := trodAll_nil h
    exact trodAll_mk0
  | cons t ts ih =>
    intro vs ds ps hts h hlt hsp
    obtain ⟨v0, vs0, d0, ds0, p0, q0, rfl, rfl, rfl, h0, r0⟩ := trodAll_cons h
    obtain ⟨hr, hrow⟩ := hts t (by simp)
    exact trodAll_cons_mk (WideElems.Trod_stays hl hr hrow h0 (fun x hx => hb.same (hlt x (by simp [hx]))) (fun x hx => hsp x (by simp [hx])))
      (ih _ _ _ (fun t ht => hts t (by simp [ht])) r0 (fun x hx => hlt x (by simp [hx])) (fun x hx => hsp x (by simp [hx])))

theorem law_post (hl : laidOutB P = true) {f : Func} {s : ChangeSpec} {T : TypeId} {W W' : World} {args : Array Value} {ds : List (DataW H)} {before : List MemPlace}
    (hvars : s.vars = []) (hrt : f.resultTypes = #[T]) (hT : P.underlying T = some .bool) (hts : f.params.toList.all (fun t => P.readableRec t && decide (t < P.types.size)) = true)
    (hW : DataW.Whole enc P f.params.toList s.vars false W args.toList ds [] before) (hA : DataW.TrodAll enc P W 0 (fun _ => true) true f.params.toList args.toList ds before)
    (e1 : (s.fn H (ds ++ [])).results = [.lit (.bool true)]) (e2 : (s.fn H (ds ++ [])).args = ds) (e3 : (s.fn H (ds ++ [])).vars = []) (hb : Below W.heap.size W W') :
    s.post enc P f false true false false W args (.bool true) W' := by
  have hlt : ∀ x ∈ before, x.block < W.heap.size := fun x hx => hW.lt x hx
  refine post_of_below (pa := before) (pv := []) hW ?_ ?_ ?_ (by simp) hb ?_
  · intro b sp hd
    rw [e1, hrt]
    exact trodAll_cons_mk (shut_bool hT true) trodAll_mk0
  · intro sp hsp
    rw [e2]
    exact trodAll_keep hl hb sp _ _ _ _ (fun t ht => by simpa using List.all_eq_true.1 hts t ht) hA hlt hsp
  · intro sp hsp
    rw [e3, hvars]
    rfl
  · exact ok_one hrt rfl (okWide_bool_mk hT true)
end
end Go.Proofs.YtohjegemooakpaaGreat
