/- stratagemlaw31.CheckerShorter returns true for every input. No condition beyond the row's own. -/
import Derived.Test.YtcpajbglcgbolaaGreatB5
import Derived.Test.YtcpajbglcgbolaaGreatB4
import Derived.Test.YtcpajbglcgbolaaGreatB1
import Derived.Deep.Slices
import Derived.Deep.Fields
import Derived.ChangeSame
import Derived.SizedLaws
import Derived.Lib.SmallJoins
import Derived.Test.YtcpajbglcgbolaaGreatB2
import Derived.Below
import Derived.OpenShut
import Derived.Carry
import Derived.Test.YtcpajbglcgbolaaGreatRows
import Derived.Deep.DeepHandedRow
import Derived.Lib.LaidTab
/- Range loops of the models as recursions. -/
namespace Go.Proofs.YtcpajbglcgbolaaGreat.Am
def M_ce_formed_L1_B (a0 : List Fact) (_y7 : Fact) (v5 : Int) : Unit → (Unit → Option (Bool)) → Option (Bool) := fun _ rc => ixv _y7 (fun y7 =>
       sel (decide (y7.1 < 0))
        (some false)
        (sel (decide (y7.1 ≥ 64))
          (some false)
          (sel (decide (y7.2 < 0))
            (some false)
            (sel (decide (y7.2 ≥ 64))
              (some false)
              (sel (decide (v5 > 0))
                (ix a0 (IntKind.i64.wrap (v5 - 1)) (fun y8 =>
                  sel (decide (y8.1 ≥ y7.1))
                   (some false)
                   (rc ())))
                (rc ()))))))
def M_ce_formed_L1_E (_ : List Fact) : Unit → Option (Bool) := fun _ => some true
theorem M_ce_formed_L1_rg (a0 : List Fact) (hl : a0.length < 9223372036854775807) : ∀ (k n : Nat) , n ≤ a0.length → a0.length < k + n → M_ce_formed_L1 a0 k (n : Int) = Rg (M_ce_formed_L1_B a0) (M_ce_formed_L1_E a0) (a0.drop n) n () := by
  intro k n 
  refine rg_of (L := fun k i (p : Unit) => M_ce_formed_L1 a0 k i) hl (fun k n p y hy hn => ?_) (fun k p => ?_) k n ()
  · have h1 := lt_some hy
    have h2 := w64s hn
    first | (simp only [M_ce_formed_L1, M_ce_formed_L1_B, List.length_map, decide_lt h1, sel, ix_at hy, ixv, h2]; done) | (simp only [List.length_map] at h1 hy; simp only [M_ce_formed_L1, M_ce_formed_L1_B, List.length_map, decide_lt h1, sel, ix_at hy, ixv, h2]; done)
  · simp only [M_ce_formed_L1, M_ce_formed_L1_E, List.length_map, decide_ge, sel]
theorem M_ce_formed_L1_eq (a0 : List Fact)  (hl : a0.length < 9223372036854775807) : M_ce_formed_L1 a0 (((a0.map cF).length : Int).toNat + 1) 0 = Rg (M_ce_formed_L1_B a0) (M_ce_formed_L1_E a0) a0 0 () := by
  have h := M_ce_formed_L1_rg a0 hl (a0.length + 1) 0  (Nat.zero_le _) (by omega)
  rw [List.length_map, Int.toNat_natCast]
  exact h
def M_ce_Check_L1_B (_ : GCertificate) (_y21 : Nogood) (_ : Int) : Unit → (Unit → Option (Unit ⊕ Er)) → Option (Unit ⊕ Er) := fun _ rc => ixv _y21 (fun y21 =>
       ob1 (M_ce_formed y21.1) (fun z22 =>
        sel (!z22)
         (some (.inr (Er.no 2)))
         (rc ())))
def M_ce_Check_L1_E (_ : GCertificate) : Unit → Option (Unit ⊕ Er) := fun _ => some (.inl ())
theorem M_ce_Check_L1_rg (a0 : GCertificate) (hl : a0.Nogoods.length < 9223372036854775807) : ∀ (k n : Nat) , n ≤ a0.Nogoods.length → a0.Nogoods.length < k + n → M_ce_Check_L1 a0 k (n : Int) = Rg (M_ce_Check_L1_B a0) (M_ce_Check_L1_E a0) (a0.Nogoods.drop n) n () := by
  intro k n 
  refine rg_of (L := fun k i (p : Unit) => M_ce_Check_L1 a0 k i) hl (fun k n p y hy hn => ?_) (fun k p => ?_) k n ()
  · have h1 := lt_some hy
    have h2 := w64s hn
    first | (simp only [M_ce_Check_L1, M_ce_Check_L1_B, List.length_map, decide_lt h1, sel, ix_at hy, ixv, h2]; done) | (simp only [List.length_map] at h1 hy; simp only [M_ce_Check_L1, M_ce_Check_L1_B, List.length_map, decide_lt h1, sel, ix_at hy, ixv, h2]; done)
  · simp only [M_ce_Check_L1, M_ce_Check_L1_E, List.length_map, decide_ge, sel]
theorem M_ce_Check_L1_eq (a0 : GCertificate)  (hl : a0.Nogoods.length < 9223372036854775807) : M_ce_Check_L1 a0 (((a0.Nogoods.map cN).length : Int).toNat + 1) 0 = Rg (M_ce_Check_L1_B a0) (M_ce_Check_L1_E a0) a0.Nogoods 0 () := by
  have h := M_ce_Check_L1_rg a0 hl (a0.Nogoods.length + 1) 0  (Nat.zero_le _) (by omega)
  rw [List.length_map, Int.toNat_natCast]
  exact h
def M_ce_Check_L2_B (a0 : GCertificate) (_y28 : Nogood) (_ : Int) : Unit → (Unit → Option (Er)) → Option (Er) := fun _ rc => ixv _y28 (fun y28 =>
       sel (decide (y28.2 < 0))
        (some (Er.no 1))
        (sel (decide (a0.Bound ≥ 0))
          (sel (decide (y28.2 ≥ a0.Bound))
            (some (Er.no 1))
            (sel (decide (a0.Bound < 0))
              (sel (y28.2 != 0)
                (some (Er.no 1))
                (rc ()))
              (rc ())))
          (sel (decide (a0.Bound < 0))
            (sel (y28.2 != 0)
              (some (Er.no 1))
              (rc ()))
            (rc ()))))
def M_ce_Check_L2_E (_ : GCertificate) : Unit → Option (Er) := fun _ => some Er.nil
theorem M_ce_Check_L2_rg (a0 : GCertificate) (hl : a0.Nogoods.length < 9223372036854775807) : ∀ (k n : Nat) , n ≤ a0.Nogoods.length → a0.Nogoods.length < k + n → M_ce_Check_L2 a0 k (n : Int) = Rg (M_ce_Check_L2_B a0) (M_ce_Check_L2_E a0) (a0.Nogoods.drop n) n () := by
  intro k n 
  refine rg_of (L := fun k i (p : Unit) => M_ce_Check_L2 a0 k i) hl (fun k n p y hy hn => ?_) (fun k p => ?_) k n ()
  · have h1 := lt_some hy
    have h2 := w64s hn
    first | (simp only [M_ce_Check_L2, M_ce_Check_L2_B, List.length_map, decide_lt h1, sel, ix_at hy, ixv, h2]; done) | (simp only [List.length_map] at h1 hy; simp only [M_ce_Check_L2, M_ce_Check_L2_B, List.length_map, decide_lt h1, sel, ix_at hy, ixv, h2]; done)
  · simp only [M_ce_Check_L2, M_ce_Check_L2_E, List.length_map, decide_ge, sel]
theorem M_ce_Check_L2_eq (a0 : GCertificate)  (hl : a0.Nogoods.length < 9223372036854775807) : M_ce_Check_L2 a0 (((a0.Nogoods.map cN).length : Int).toNat + 1) 0 = Rg (M_ce_Check_L2_B a0) (M_ce_Check_L2_E a0) a0.Nogoods 0 () := by
  have h := M_ce_Check_L2_rg a0 hl (a0.Nogoods.length + 1) 0  (Nat.zero_le _) (by omega)
  rw [List.length_map, Int.toNat_natCast]
  exact h
def M_ce_Proper_L1_B (a0 : List Int) (_ : GCertificate) (_y10 : Nogood) (_ : Int) : Unit → (Unit → Option (Er)) → Option (Er) := fun _ rc => ixv _y10 (fun y10 =>
       ob1 (M_task_Facts a0 y10.1) (fun z11 =>
        sel (!z11)
         (some (Er.no 2))
         (rc ())))
def M_ce_Proper_L1_E (_ : List Int) (_ : GCertificate) : Unit → Option (Er) := fun _ => some Er.nil
theorem M_ce_Proper_L1_rg (a0 : List Int) (a1 : GCertificate) (hl : a1.Nogoods.length < 9223372036854775807) : ∀ (k n : Nat) , n ≤ a1.Nogoods.length → a1.Nogoods.length < k + n → M_ce_Proper_L1 a0 a1 k (n : Int) = Rg (M_ce_Proper_L1_B a0 a1) (M_ce_Proper_L1_E a0 a1) (a1.Nogoods.drop n) n () := by
  intro k n 
  refine rg_of (L := fun k i (p : Unit) => M_ce_Proper_L1 a0 a1 k i) hl (fun k n p y hy hn => ?_) (fun k p => ?_) k n ()
  · have h1 := lt_some hy
    have h2 := w64s hn
    first | (simp only [M_ce_Proper_L1, M_ce_Proper_L1_B, List.length_map, decide_lt h1, sel, ix_at hy, ixv, h2]; done) | (simp only [List.length_map] at h1 hy; simp only [M_ce_Proper_L1, M_ce_Proper_L1_B, List.length_map, decide_lt h1, sel, ix_at hy, ixv, h2]; done)
  · simp only [M_ce_Proper_L1, M_ce_Proper_L1_E, List.length_map, decide_ge, sel]
theorem M_ce_Proper_L1_eq (a0 : List Int) (a1 : GCertificate)  (hl : a1.Nogoods.length < 9223372036854775807) : M_ce_Proper_L1 a0 a1 (((a1.Nogoods.map cN).length : Int).toNat + 1) 0 = Rg (M_ce_Proper_L1_B a0 a1) (M_ce_Proper_L1_E a0 a1) a1.Nogoods 0 () := by
  have h := M_ce_Proper_L1_rg a0 a1 hl (a1.Nogoods.length + 1) 0  (Nat.zero_le _) (by omega)
  rw [List.length_map, Int.toNat_natCast]
  exact h
def M_ck_counting_L1_B (_ : GChecker) (a1 : Int) (_y8 : Nogood) (_ : Int) : ((List (List Fact))) → (((List (List Fact))) → Option (List (List Fact))) → Option (List (List Fact)) := fun v6 rc => ixv _y8 (fun y8 =>
       sel (decide (y8.2 ≤ a1))
        (grd ((v6.length + 1) * 24 ≤ 140737488355328) (rc ((v6 ++ [y8.1]))))
        (rc (v6)))
def M_ck_counting_L1_E (_ : GChecker) (_ : Int) : ((List (List Fact))) → Option (List (List Fact)) := fun v6 => grd (v6.length ≤ 140737488355328) (some v6)
theorem M_ck_counting_L1_rg (a0 : GChecker) (a1 : Int) (hl : a0.c.Nogoods.length < 9223372036854775807) : ∀ (k n : Nat) (v6 : List (List Fact)), n ≤ a0.c.Nogoods.length → a0.c.Nogoods.length < k + n → M_ck_counting_L1 a0 a1 k (n : Int) v6 = Rg (M_ck_counting_L1_B a0 a1) (M_ck_counting_L1_E a0 a1) (a0.c.Nogoods.drop n) n v6 := by
  intro k n v6
  refine rg_of (L := fun k i (p : ((List (List Fact)))) => match p with | v6 => M_ck_counting_L1 a0 a1 k i v6) hl (fun k n p y hy hn => ?_) (fun k p => ?_) k n v6
  · have h1 := lt_some hy
    have h2 := w64s hn
    first | (simp only [M_ck_counting_L1, M_ck_counting_L1_B, List.length_map, decide_lt h1, sel, ix_at hy, ixv, h2]; done) | (simp only [List.length_map] at h1 hy; simp only [M_ck_counting_L1, M_ck_counting_L1_B, List.length_map, decide_lt h1, sel, ix_at hy, ixv, h2]; done)
  · simp only [M_ck_counting_L1, M_ck_counting_L1_E, List.length_map, decide_ge, sel]
theorem M_ck_counting_L1_eq (a0 : GChecker) (a1 : Int) (v6 : List (List Fact)) (hl : a0.c.Nogoods.length < 9223372036854775807) : M_ck_counting_L1 a0 a1 (((a0.c.Nogoods.map cN).length : Int).toNat + 1) 0 v6 = Rg (M_ck_counting_L1_B a0 a1) (M_ck_counting_L1_E a0 a1) a0.c.Nogoods 0 v6 := by
  have h := M_ck_counting_L1_rg a0 a1 hl (a0.c.Nogoods.length + 1) 0 v6 (Nat.zero_le _) (by omega)
  rw [List.length_map, Int.toNat_natCast]
  exact h
def M_ck_step_L1_B (g : Nat) (v2 : Int) (_ : List (List Fact)) (_y37 : List Fact) (_ : Int) : ((List Int) × (List Int) × (List Fact) × (List GOp) × (Int) × (List Nogood) × (Int)) → (((List Int) × (List Int) × (List Fact) × (List GOp) × (Int) × (List Nogood) × (Int)) → Option (Er × GChecker)) → Option (Er × GChecker) := fun (v29, v30, v31, v32, v33, v34, v35) rc => ixv _y37 (fun y37 =>
       ob3 (M_ck_covered g ({ t := { Vars := v29, Init := v30, Goal := v31, Ops := v32 : GTask }, c := { Bound := v33, Nogoods := v34 : GCertificate }, steps := v35 : GChecker }) y37 v2) (fun z38 z39 c40 =>
        erM z39
         (sel (!z38)
           (some ((Er.no 19), c40))
           (rc (c40.t.Vars, c40.t.Init, c40.t.Goal, c40.t.Ops, c40.c.Bound, c40.c.Nogoods, c40.steps)))
         (fun e41 => some ((Er.no e41), c40))))
def M_ck_step_L1_E (_ : Nat) (_ : Int) (_ : List (List Fact)) : ((List Int) × (List Int) × (List Fact) × (List GOp) × (Int) × (List Nogood) × (Int)) → Option (Er × GChecker) := fun (v29, v30, v31, v32, v33, v34, v35) => some (Er.nil, { t := { Vars := v29, Init := v30, Goal := v31, Ops := v32 : GTask }, c := { Bound := v33, Nogoods := v34 : GCertificate }, steps := v35 : GChecker })
theorem M_ck_step_L1_rg (g : Nat) (v2 : Int) (z7 : List (List Fact)) (hl : z7.length < 9223372036854775807) : ∀ (k n : Nat) (v29 : List Int) (v30 : List Int) (v31 : List Fact) (v32 : List GOp) (v33 : Int) (v34 : List Nogood) (v35 : Int), n ≤ z7.length → z7.length < k + n → M_ck_step_L1 g v2 z7 k (n : Int) v29 v30 v31 v32 v33 v34 v35 = Rg (M_ck_step_L1_B g v2 z7) (M_ck_step_L1_E g v2 z7) (z7.drop n) n (v29, v30, v31, v32, v33, v34, v35) := by
  intro k n v29 v30 v31 v32 v33 v34 v35
  refine rg_of (L := fun k i (p : ((List Int) × (List Int) × (List Fact) × (List GOp) × (Int) × (List Nogood) × (Int))) => match p with | (v29, v30, v31, v32, v33, v34, v35) => M_ck_step_L1 g v2 z7 k i v29 v30 v31 v32 v33 v34 v35) hl (fun k n p y hy hn => ?_) (fun k p => ?_) k n (v29, v30, v31, v32, v33, v34, v35)
  · have h1 := lt_some hy
    have h2 := w64s hn
    first | (simp only [M_ck_step_L1, M_ck_step_L1_B, List.length_map, decide_lt h1, sel, ix_at hy, ixv, h2]; done) | (simp only [List.length_map] at h1 hy; simp only [M_ck_step_L1, M_ck_step_L1_B, List.length_map, decide_lt h1, sel, ix_at hy, ixv, h2]; done)
  · simp only [M_ck_step_L1, M_ck_step_L1_E, List.length_map, decide_ge, sel]
theorem M_ck_step_L1_eq (g : Nat) (v2 : Int) (z7 : List (List Fact)) (v29 : List Int) (v30 : List Int) (v31 : List Fact) (v32 : List GOp) (v33 : Int) (v34 : List Nogood) (v35 : Int) (hl : z7.length < 9223372036854775807) : M_ck_step_L1 g v2 z7 (((z7.map cL_cF).length : Int).toNat + 1) 0 v29 v30 v31 v32 v33 v34 v35 = Rg (M_ck_step_L1_B g v2 z7) (M_ck_step_L1_E g v2 z7) z7 0 (v29, v30, v31, v32, v33, v34, v35) := by
  have h := M_ck_step_L1_rg g v2 z7 hl (z7.length + 1) 0 v29 v30 v31 v32 v33 v34 v35 (Nat.zero_le _) (by omega)
  rw [List.length_map, Int.toNat_natCast]
  exact h
def M_checker_Where_L1_B (a0 : GTask) (_ : GCertificate) (_y25 : Nogood) (_ : Int) : Unit → (Unit → Option (Unit ⊕ (Int × Int × Er))) → Option (Unit ⊕ (Int × Int × Er)) := fun _ rc => ixv _y25 (fun y25 =>
       ob1 (M_task_Holds y25.1 a0.Init) (fun z26 =>
        sel z26
         (some (.inr ((-1), (-1), (Er.no 20))))
         (rc ())))
def M_checker_Where_L1_E (_ : GTask) (_ : GCertificate) : Unit → Option (Unit ⊕ (Int × Int × Er)) := fun _ => some (.inl ())
theorem M_checker_Where_L1_rg (a0 : GTask) (a1 : GCertificate) (hl : a1.Nogoods.length < 9223372036854775807) : ∀ (k n : Nat) , n ≤ a1.Nogoods.length → a1.Nogoods.length < k + n → M_checker_Where_L1 a0 a1 k (n : Int) = Rg (M_checker_Where_L1_B a0 a1) (M_checker_Where_L1_E a0 a1) (a1.Nogoods.drop n) n () := by
  intro k n 
  refine rg_of (L := fun k i (p : Unit) => M_checker_Where_L1 a0 a1 k i) hl (fun k n p y hy hn => ?_) (fun k p => ?_) k n ()
  · have h1 := lt_some hy
    have h2 := w64s hn
    first | (simp only [M_checker_Where_L1, M_checker_Where_L1_B, List.length_map, decide_lt h1, sel, ix_at hy, ixv, h2]; done) | (simp only [List.length_map] at h1 hy; simp only [M_checker_Where_L1, M_checker_Where_L1_B, List.length_map, decide_lt h1, sel, ix_at hy, ixv, h2]; done)
  · simp only [M_checker_Where_L1, M_checker_Where_L1_E, List.length_map, decide_ge, sel]
theorem M_checker_Where_L1_eq (a0 : GTask) (a1 : GCertificate)  (hl : a1.Nogoods.length < 9223372036854775807) : M_checker_Where_L1 a0 a1 (((a1.Nogoods.map cN).length : Int).toNat + 1) 0 = Rg (M_checker_Where_L1_B a0 a1) (M_checker_Where_L1_E a0 a1) a1.Nogoods 0 () := by
  have h := M_checker_Where_L1_rg a0 a1 hl (a1.Nogoods.length + 1) 0  (Nat.zero_le _) (by omega)
  rw [List.length_map, Int.toNat_natCast]
  exact h
def M_checker_Where_L2_B (_ : GTask) (g : Nat) (v184 : Int) (y231 : Nogood) (v246 : Int) : ((List Int) × (List Int) × (List Fact) × (List GOp) × (Int) × (List Nogood) × (Int)) → (((List Int) × (List Int) × (List Fact) × (List GOp) × (Int) × (List Nogood) × (Int)) → Option (((List Int) × (List Int) × (List Fact) × (List GOp) × Int × (List Nogood) × Int) ⊕ (Int × Int × Er))) → Option (((List Int) × (List Int) × (List Fact) × (List GOp) × Int × (List Nogood) × Int) ⊕ (Int × Int × Er)) := fun (v247, v248, v249, v250, v251, v252, v253) rc => ob2 (M_ck_step g ({ t := { Vars := v247, Init := v248, Goal := v249, Ops := v250 : GTask }, c := { Bound := v251, Nogoods := v252 : GCertificate }, steps := v253 : GChecker }) y231 v246) (fun z255 c256 =>
       erM z255
        (rc (c256.t.Vars, c256.t.Init, c256.t.Goal, c256.t.Ops, c256.c.Bound, c256.c.Nogoods, c256.steps))
        (fun e257 => some (.inr (v184, v246, (Er.no e257)))))
def M_checker_Where_L2_E (_ : GTask) (_ : Nat) (_ : Int) (_ : Nogood) : ((List Int) × (List Int) × (List Fact) × (List GOp) × (Int) × (List Nogood) × (Int)) → Option (((List Int) × (List Int) × (List Fact) × (List GOp) × Int × (List Nogood) × Int) ⊕ (Int × Int × Er)) := fun (v247, v248, v249, v250, v251, v252, v253) => some (.inl (v247, v248, v249, v250, v251, v252, v253))
theorem M_checker_Where_L2_rg (a0 : GTask) (g : Nat) (v184 : Int) (y231 : Nogood) {m : Nat} (hm : ((a0.Ops.map cGOp).length : Int) = (m : Int)) (hl : m < 9223372036854775807) : ∀ (k n : Nat) (v247 : List Int) (v248 : List Int) (v249 : List Fact) (v250 : List GOp) (v251 : Int) (v252 : List Nogood) (v253 : Int), n ≤ m → m < k + n → M_checker_Where_L2 a0 g v184 y231 k (n : Int) v247 v248 v249 v250 v251 v252 v253 = Rn (M_checker_Where_L2_B a0 g v184 y231) (M_checker_Where_L2_E a0 g v184 y231) (m - n) n (v247, v248, v249, v250, v251, v252, v253) := by
  intro k n v247 v248 v249 v250 v251 v252 v253
  refine rn_of (L := fun k i (p : ((List Int) × (List Int) × (List Fact) × (List GOp) × (Int) × (List Nogood) × (Int))) => match p with | (v247, v248, v249, v250, v251, v252, v253) => M_checker_Where_L2 a0 g v184 y231 k i v247 v248 v249 v250 v251 v252 v253) hl (fun k n p hn => ?_) (fun k p => ?_) k n (v247, v248, v249, v250, v251, v252, v253)
  · have h2 := w64s (Nat.lt_trans hn hl)
    simp only [M_checker_Where_L2, M_checker_Where_L2_B, hm, decide_lt hn, sel, h2]
  · simp only [M_checker_Where_L2, M_checker_Where_L2_E, hm, decide_ge, sel]
theorem M_checker_Where_L2_eq (a0 : GTask) (g : Nat) (v184 : Int) (y231 : Nogood) (v247 : List Int) (v248 : List Int) (v249 : List Fact) (v250 : List GOp) (v251 : Int) (v252 : List Nogood) (v253 : Int) {m : Nat} (hm : ((a0.Ops.map cGOp).length : Int) = (m : Int)) (hl : m < 9223372036854775807) : M_checker_Where_L2 a0 g v184 y231 ((((a0.Ops.map cGOp).length : Int)).toNat + 1) 0 v247 v248 v249 v250 v251 v252 v253 = Rn (M_checker_Where_L2_B a0 g v184 y231) (M_checker_Where_L2_E a0 g v184 y231) m 0 (v247, v248, v249, v250, v251, v252, v253) := by
  have h := M_checker_Where_L2_rg a0 g v184 y231 hm hl (m + 1) 0 v247 v248 v249 v250 v251 v252 v253 (Nat.zero_le _) (by omega)
  have e : (((a0.Ops.map cGOp).length : Int)).toNat = m := by rw [hm, Int.toNat_natCast]
  rw [e]
  exact h
def M_checker_Where_L3_B (a0 : GTask) (_ : GCertificate) (g : Nat) (_y231 : Nogood) (v184 : Int) : ((List Int) × (List Int) × (List Fact) × (List GOp) × (Int) × (List Nogood) × (Int)) → (((List Int) × (List Int) × (List Fact) × (List GOp) × (Int) × (List Nogood) × (Int)) → Option (Int × Int × Er)) → Option (Int × Int × Er) := fun (v185, v186, v187, v188, v189, v190, v191) rc => ob1 (ixv _y231 (fun y231 =>
        M_checker_Where_L2 a0 g v184 y231 ((((a0.Ops.map cGOp).length : Int)).toNat + 1) 0 v185 v186 v187 v188 v189 v190 v191) : Option (((List Int) × (List Int) × (List Fact) × (List GOp) × Int × (List Nogood) × Int) ⊕ (Int × Int × Er)))
       (osum
       (fun (v220, v221, v222, v223, v224, v225, v226) => rc (v220, v221, v222, v223, v224, v225, v226))
       (fun (r227, r228, r229) => some (r227, r228, r229)))
def M_checker_Where_L3_E (_ : GTask) (_ : GCertificate) (_ : Nat) : ((List Int) × (List Int) × (List Fact) × (List GOp) × (Int) × (List Nogood) × (Int)) → Option (Int × Int × Er) := fun (_, _, _, _, _, _, _) => some ((-1), (-1), Er.nil)
theorem M_checker_Where_L3_rg (a0 : GTask) (a1 : GCertificate) (g : Nat) (hl : a1.Nogoods.length < 9223372036854775807) : ∀ (k n : Nat) (v185 : List Int) (v186 : List Int) (v187 : List Fact) (v188 : List GOp) (v189 : Int) (v190 : List Nogood) (v191 : Int), n ≤ a1.Nogoods.length → a1.Nogoods.length < k + n → M_checker_Where_L3 a0 a1 g k (n : Int) v185 v186 v187 v188 v189 v190 v191 = Rg (M_checker_Where_L3_B a0 a1 g) (M_checker_Where_L3_E a0 a1 g) (a1.Nogoods.drop n) n (v185, v186, v187, v188, v189, v190, v191) := by
  intro k n v185 v186 v187 v188 v189 v190 v191
  refine rg_of (L := fun k i (p : ((List Int) × (List Int) × (List Fact) × (List GOp) × (Int) × (List Nogood) × (Int))) => match p with | (v185, v186, v187, v188, v189, v190, v191) => M_checker_Where_L3 a0 a1 g k i v185 v186 v187 v188 v189 v190 v191) hl (fun k n p y hy hn => ?_) (fun k p => ?_) k n (v185, v186, v187, v188, v189, v190, v191)
  · have h1 := lt_some hy
    have h2 := w64s hn
    first | (simp only [M_checker_Where_L3, M_checker_Where_L3_B, List.length_map, decide_lt h1, sel, ix_at hy, ixv, h2]; done) | (simp only [List.length_map] at h1 hy; simp only [M_checker_Where_L3, M_checker_Where_L3_B, List.length_map, decide_lt h1, sel, ix_at hy, ixv, h2]; done)
  · simp only [M_checker_Where_L3, M_checker_Where_L3_E, List.length_map, decide_ge, sel]
theorem M_checker_Where_L3_eq (a0 : GTask) (a1 : GCertificate) (g : Nat) (v185 : List Int) (v186 : List Int) (v187 : List Fact) (v188 : List GOp) (v189 : Int) (v190 : List Nogood) (v191 : Int) (hl : a1.Nogoods.length < 9223372036854775807) : M_checker_Where_L3 a0 a1 g (((a1.Nogoods.map cN).length : Int).toNat + 1) 0 v185 v186 v187 v188 v189 v190 v191 = Rg (M_checker_Where_L3_B a0 a1 g) (M_checker_Where_L3_E a0 a1 g) a1.Nogoods 0 (v185, v186, v187, v188, v189, v190, v191) := by
  have h := M_checker_Where_L3_rg a0 a1 g hl (a1.Nogoods.length + 1) 0 v185 v186 v187 v188 v189 v190 v191 (Nat.zero_le _) (by omega)
  rw [List.length_map, Int.toNat_natCast]
  exact h
end Go.Proofs.YtcpajbglcgbolaaGreat.Am
/- Plain: certificate.Check, Proper; task.Holds. -/
namespace Go.Proofs.YtcpajbglcgbolaaGreat.Am
open Go.RowKit
theorem tholds_eq (l : List Fact) (s : List Int) (hl : Sh l) : M_task_Holds l s = some (holdsF s l) := by
  rw [M_task_Holds, M_task_Holds_L1_eq l s hl.lt, rg_all (p := hold1 s) (c := some false)]
  · rw [M_task_Holds_L1_E, holdsF]; cases l.all (hold1 s) <;> rfl
  · intro x _ i rc
    rw [M_task_Holds_L1_B, ixv, sel_dec, sel_dec, List.length_map, hold1]
    by_cases h0 : x.1 < 0
    · rw [if_pos h0, decide_eq_false (by omega), Bool.false_and, if_neg (by decide)]
    · rw [if_neg h0, decide_eq_true (p := 0 ≤ x.1) (by omega), Bool.true_and]
      by_cases h1 : x.1 < s.length
      · rw [if_neg (by omega), decide_eq_true h1, Bool.true_and, ix_getD (d := 0) (by omega) h1, bne]
        cases s.getD x.1.toNat 0 == x.2 <;> rfl
      · rw [if_pos (by omega), decide_eq_false h1, Bool.false_and, if_neg (by decide)]
def limF (l : List Fact) : Bool := l.all fun x => decide (x.1 < 64 ∧ x.2 < 64)
def frmF (l : List Fact) : Bool := vF (-1) l && limF l
theorem formed_loop (l : List Fact) (hs : Sh l) : ∀ (r : List Fact) (n : Nat) (last : Int), l.drop n = r → n ≤ l.length → -1 ≤ last → (n = 0 → last = -1) → (∀ m, n = m + 1 → ∃ x, l[m]? = some x ∧ x.1 = last) → Rg (M_ce_formed_L1_B l) (M_ce_formed_L1_E l) r n () = some (vF last r && limF r)
  | [], _, _, _, _, _, _, _ => rfl
  | y :: r, n, last, hd, hn, hl, h0, hp => by
    rw [Rg, vF, limF, List.all_cons]
    obtain ⟨hy, hd', hlt⟩ := drop_cons hd
    have hih : 0 ≤ y.1 → Rg (M_ce_formed_L1_B l) (M_ce_formed_L1_E l) r ((n : Int) + 1) () = some (vF y.1 r && limF r) := fun h => formed_loop l hs r (n + 1) y.1 hd' hlt (by omega) (by omega) (fun m hm => ⟨y, by rw [show m = n by omega]; exact hy, rfl⟩)
    simp only [M_ce_formed_L1_B, ixv, sel_dec]
    by_cases h1 : y.1 < 0
    · rw [if_pos h1, decide_eq_false (p := last < y.1 ∧ 0 ≤ y.2) (by omega)]; rfl
    · rw [if_neg h1]
      by_cases h2 : y.1 ≥ 64
      · rw [if_pos h2, decide_eq_false (p := y.1 < 64 ∧ y.2 < 64) (by omega), Bool.false_and, Bool.and_false]
      · rw [if_neg h2]
        by_cases h3 : y.2 < 0
        · rw [if_pos h3, decide_eq_false (p := last < y.1 ∧ 0 ≤ y.2) (by omega)]; rfl
        · rw [if_neg h3]
          by_cases h4 : y.2 ≥ 64
          · rw [if_pos h4, decide_eq_false (p := y.1 < 64 ∧ y.2 < 64) (by omega), Bool.false_and, Bool.and_false]
          · rw [if_neg h4, decide_eq_true (p := y.1 < 64 ∧ y.2 < 64) (by omega), Bool.true_and]
            cases n with
            | zero =>
              have := h0 rfl
              rw [if_neg (by omega), decide_eq_true (p := last < y.1 ∧ 0 ≤ y.2) (by omega)]
              exact hih (by omega)
            | succ m =>
              obtain ⟨x, hx, hxl⟩ := hp m rfl
              rw [if_pos (by omega), w64 (by omega) (by have := hs; unfold Sh at this; omega), show (((m + 1 : Nat) : Int) - 1) = (m : Int) by omega, ix_at hx]
              by_cases h5 : x.1 ≥ y.1
              · rw [if_pos h5, decide_eq_false (p := last < y.1 ∧ 0 ≤ y.2) (by omega)]; rfl
              · rw [if_neg h5, decide_eq_true (p := last < y.1 ∧ 0 ≤ y.2) (by omega)]
                exact hih (by omega)
theorem formed_eq (l : List Fact) (hl : Sh l) : M_ce_formed l = some (frmF l) := by
  rw [M_ce_formed, M_ce_formed_L1_eq _ hl.lt]
  exact formed_loop l hl l 0 (-1) rfl (Nat.zero_le _) (by omega) (fun _ => rfl) (fun m hm => by omega)
/-- sizes of a certificate -/
structure ShC (c : GCertificate) : Prop where
  list : Sh c.Nogoods
  each : ∀ n ∈ c.Nogoods, Sh n.1
def distF (b : Int) (n : Nogood) : Bool := decide (0 ≤ n.2 ∧ (0 ≤ b → n.2 < b) ∧ (b < 0 → n.2 = 0))
def certF (c : GCertificate) : Er :=
  if c.Bound < -1 ∨ c.Bound > 1099511627776 then .no 1
  else if c.Nogoods.length > 4096 then .no 5
  else if (c.Nogoods.all fun n => frmF n.1) = true then (if (c.Nogoods.all (distF c.Bound)) = true then .nil else .no 1)
  else .no 2
theorem ccheck_eq (c : GCertificate) (hc : ShC c) : M_ce_Check c = some (certF c) := by
  rw [M_ce_Check, certF, sel_dec, sel_dec]
  by_cases h1 : c.Bound < -1
  · rw [if_pos h1, if_pos (Or.inl h1)]; rfl
  · rw [if_neg h1]
    by_cases h2 : c.Bound > 1099511627776
    · rw [if_pos h2, if_pos (Or.inr h2)]; rfl
    · rw [if_neg h2, if_neg (by omega), ob1_some, osum_inl, sel_dec, List.length_map]
      by_cases h3 : c.Nogoods.length > 4096
      · rw [if_pos (by omega), if_pos h3]
      · have e1 := M_ce_Check_L1_eq c (by omega)
        have e2 := M_ce_Check_L2_eq c (by omega)
        rw [List.length_map] at e1 e2
        rw [if_neg (by omega), if_neg h3, e1, rg_all (p := fun n : Nogood => frmF n.1) (c := some (.inr (Er.no 2)))]
        · cases ha : c.Nogoods.all fun n => frmF n.1 with
          | false => rw [if_neg (by decide), ob1_some, osum_inr, if_neg (by decide)]
          | true =>
            rw [if_pos rfl, if_pos rfl, M_ce_Check_L1_E, ob1_some, osum_inl, e2, rg_all (p := distF c.Bound) (c := some (Er.no 1)), M_ce_Check_L2_E]
            · split <;> rfl
            · intro n _ i rc
              rw [M_ce_Check_L2_B, ixv, distF]
              simp only [sel_dec]
              by_cases q1 : n.2 < 0
              · rw [if_pos q1, decide_eq_false (by omega)]; rfl
              · rw [if_neg q1]
                by_cases q2 : c.Bound ≥ 0
                · rw [if_pos q2]
                  by_cases q3 : n.2 ≥ c.Bound
                  · rw [if_pos q3, decide_eq_false (by omega)]; rfl
                  · rw [if_neg q3, if_neg (by omega), decide_eq_true (by omega)]; rfl
                · rw [if_neg q2, if_pos (by omega)]
                  by_cases q4 : n.2 = 0
                  · rw [show (n.2 != 0) = false from by simp [q4], sel_ff, decide_eq_true (by omega)]; rfl
                  · rw [show (n.2 != 0) = true from by simp [q4], sel_tt, decide_eq_false (by omega)]; rfl
        · intro n hn i rc
          rw [M_ce_Check_L1_B, ixv, formed_eq n.1 (hc.each n hn), ob1_some]
          cases frmF n.1 <;> rfl
def properF (vars : List Int) (c : GCertificate) : Er :=
  match certF c with
  | .nil => if (c.Nogoods.all fun n => propF vars (-1) n.1) = true then .nil else .no 2
  | .no e => .no e
theorem cproper_eq (vars : List Int) (c : GCertificate) (hc : ShC c) : M_ce_Proper vars c = some (properF vars c) := by
  have e1 := M_ce_Proper_L1_eq vars c hc.list.lt
  rw [M_ce_Proper, ccheck_eq c hc, ob1_some, properF, e1]
  cases certF c with
  | no e => rfl
  | nil =>
    show Rg _ _ _ _ _ = _
    rw [rg_all (p := fun n : Nogood => propF vars (-1) n.1) (c := some (Er.no 2)), M_ce_Proper_L1_E]
    · simp only; split <;> rfl
    · intro n hn i rc
      rw [M_ce_Proper_L1_B, ixv, facts_eq vars n.1 (hc.each n hn), ob1_some]
      cases propF vars (-1) n.1 <;> rfl
/-- a certificate that is proper -/
structure CertP (vars : List Int) (c : GCertificate) : Prop where
  b0 : -1 ≤ c.Bound
  b1 : c.Bound ≤ 1099511627776
  len : c.Nogoods.length ≤ 4096
  prop : ∀ n ∈ c.Nogoods, propF vars (-1) n.1 = true
  frm : ∀ n ∈ c.Nogoods, frmF n.1 = true
  d0 : ∀ n ∈ c.Nogoods, 0 ≤ n.2
  d1 : ∀ n ∈ c.Nogoods, 0 ≤ c.Bound → n.2 < c.Bound
  d2 : ∀ n ∈ c.Nogoods, c.Bound < 0 → n.2 = 0
theorem certF_nil (c : GCertificate) : certF c = .nil ↔ -1 ≤ c.Bound ∧ c.Bound ≤ 1099511627776 ∧ c.Nogoods.length ≤ 4096 ∧ (∀ n ∈ c.Nogoods, frmF n.1 = true) ∧ ∀ n ∈ c.Nogoods, distF c.Bound n = true := by
  unfold certF
  split
  · exact ⟨(nofun), fun h => by omega⟩
  · split
    · exact ⟨(nofun), fun h => by omega⟩
    · split
      · rename_i h
        rw [List.all_eq_true] at h
        split
        · rename_i h2
          rw [List.all_eq_true] at h2
          exact ⟨fun _ => ⟨by omega, by omega, by omega, h, h2⟩, fun _ => rfl⟩
        · rename_i h2
          rw [List.all_eq_true] at h2
          exact ⟨(nofun), fun hh => absurd hh.2.2.2.2 h2⟩
      · rename_i h
        rw [List.all_eq_true] at h
        exact ⟨(nofun), fun hh => absurd hh.2.2.2.1 h⟩
theorem properF_nil (vars : List Int) (c : GCertificate) : properF vars c = .nil ↔ CertP vars c := by
  unfold properF
  constructor
  · intro h
    cases hc : certF c with
    | no e => rw [hc] at h; cases h
    | nil =>
      rw [hc] at h
      simp only at h
      split at h
      · rename_i ha
        rw [List.all_eq_true] at ha
        obtain ⟨h1, h2, h3, h4, h5⟩ := (certF_nil c).1 hc
        have hd : ∀ n ∈ c.Nogoods, 0 ≤ n.2 ∧ (0 ≤ c.Bound → n.2 < c.Bound) ∧ (c.Bound < 0 → n.2 = 0) := fun n hn => of_decide_eq_true (h5 n hn)
        exact ⟨h1, h2, h3, ha, h4, fun n hn => (hd n hn).1, fun n hn => (hd n hn).2.1, fun n hn => (hd n hn).2.2⟩
      · cases h
  · intro h
    rw [(certF_nil c).2 ⟨h.b0, h.b1, h.len, h.frm, fun n hn => decide_eq_true ⟨h.d0 n hn, h.d1 n hn, h.d2 n hn⟩⟩]
    simp only
    rw [if_pos (List.all_eq_true.2 h.prop)]
end Go.Proofs.YtcpajbglcgbolaaGreat.Am
/- Plain: checker.Where, Verify. -/
namespace Go.Proofs.YtcpajbglcgbolaaGreat.Am
open Go.RowKit
def countL (ns : List Nogood) (d : Int) : List (List Fact) := (ns.filter fun n => decide (n.2 ≤ d)).map (·.1)
theorem count_loop (x : GChecker) (d : Int) : ∀ (r : List Nogood) (i : Int) (v : List (List Fact)), v.length + r.length ≤ 1000000 →
    Rg (M_ck_counting_L1_B x d) (M_ck_counting_L1_E x d) r i v = some (v ++ countL r d)
  | [], i, v, h => by rw [Rg, M_ck_counting_L1_E, grd_t (by simp at h; omega)]; simp [countL]
  | n :: r, i, v, h => by
    rw [List.length_cons] at h
    rw [Rg, M_ck_counting_L1_B, ixv, sel_dec]
    by_cases hd : n.2 ≤ d
    · rw [if_pos hd, grd_t (by omega), count_loop x d r _ _ (by simp; omega)]
      simp [countL, hd]
    · rw [if_neg hd, count_loop x d r _ _ (by omega)]
      simp [countL, hd]
theorem counting_eq (x : GChecker) (d : Int) (h : x.c.Nogoods.length ≤ 4096) : M_ck_counting x d = some (countL x.c.Nogoods d) := by
  rw [M_ck_counting, M_ck_counting_L1_eq x d [] (by omega), count_loop x d _ _ _ (by simp; omega), List.nil_append]
theorem count_prop {vars : List Int} {c : GCertificate} (h : CertP vars c) (d : Int) : PropL vars (countL c.Nogoods d) := fun x hx => by
  obtain ⟨n, hn, rfl⟩ := List.mem_map.1 hx
  exact h.prop n (List.mem_filter.1 hn).1
theorem count_len {vars : List Int} {c : GCertificate} (h : CertP vars c) (d : Int) : (countL c.Nogoods d).length ≤ 4096 := by
  unfold countL
  rw [List.length_map]
  exact Nat.le_trans (List.length_filter_le _ _) h.len
/-- one question, with the steps that are left -/
def askC (t : GTask) (c : GCertificate) (p : List Fact) (d r : Int) : Bool × Er × Int :=
  if (covA t.Vars p (countL c.Nogoods d)).2 ≤ r then ((covA t.Vars p (countL c.Nogoods d)).1, .nil, r - (covA t.Vars p (countL c.Nogoods d)).2) else (false, .no 10, r)
theorem covA_pos (vars : List Int) (p : List Fact) (l : List (List Fact)) : 1 ≤ (covA vars p l).2 := decA_pos _ _ _ _
theorem askC_r {t : GTask} {c : GCertificate} {p : List Fact} {d r : Int} (h : 0 ≤ r ∧ r ≤ 1048576) : 0 ≤ (askC t c p d r).2.2 ∧ (askC t c p d r).2.2 ≤ 1048576 := by
  have := covA_pos t.Vars p (countL c.Nogoods d)
  unfold askC
  split
  · show 0 ≤ r - _ ∧ r - _ ≤ _; omega
  · exact h
theorem ask_eq {t : GTask} {c : GCertificate} (hd : DomP t.Vars) (hc : CertP t.Vars c) (g : Nat) (hg : 70 ≤ g) (p : List Fact) (hp : propF t.Vars (-1) p = true) (d r : Int) (hr : 0 ≤ r ∧ r ≤ 1048576) :
    M_ck_covered g { t := t, c := c, steps := r } p d = some ((askC t c p d r).1, (askC t c p d r).2.1, { t := t, c := c, steps := (askC t c p d r).2.2 }) := by
  have hl := count_len hc d
  rw [M_ck_covered, counting_eq _ d hc.len, ob1_some]
  show ob3 (M_p_Covered g t.Vars p (countL c.Nogoods d) r) _ = _
  rw [covered_eq hd hp (count_prop hc d) (by omega) r (by omega) g (by omega), covR, askC]
  have hpos := covA_pos t.Vars p (countL c.Nogoods d)
  by_cases h : (covA t.Vars p (countL c.Nogoods d)).2 ≤ r
  · rw [if_pos h, if_pos h, ob3_some]
    show some (_, _, _) = some (_, _, _)
    rw [wrap_eq (by show _ ≤ r - _; omega) (by show r - _ ≤ _; omega)]
  · rw [if_neg h, if_neg h, ob3_some]; rfl
def stepL (t : GTask) (c : GCertificate) (d : Int) : List (List Fact) → Int → Er × Int
  | [], r => (.nil, r)
  | p :: ps, r => match askC t c p d r with
    | (true, .nil, r') => stepL t c d ps r'
    | (false, .nil, r') => (.no 19, r')
    | (_, .no e, r') => (.no e, r')
theorem stepL_r (t : GTask) (c : GCertificate) (d : Int) : ∀ (l : List (List Fact)) (r : Int), 0 ≤ r ∧ r ≤ 1048576 → 0 ≤ (stepL t c d l r).2 ∧ (stepL t c d l r).2 ≤ 1048576
  | [], r, h => h
  | p :: ps, r, h => by
    have ha := askC_r (t := t) (c := c) (p := p) (d := d) h
    rw [stepL]
    rcases hq : askC t c p d r with ⟨b, e, r'⟩
    rw [hq] at ha
    cases e with
    | no e => cases b <;> exact ha
    | nil =>
      cases b with
      | false => exact ha
      | true => exact stepL_r t c d ps r' ha
theorem step_loop {t : GTask} {c : GCertificate} (hd : DomP t.Vars) (hc : CertP t.Vars c) (g : Nat) (hg : 70 ≤ g) (d : Int) (z : List (List Fact)) : ∀ (l : List (List Fact)) (i r : Int), PropL t.Vars l → 0 ≤ r ∧ r ≤ 1048576 →
    Rg (M_ck_step_L1_B g d z) (M_ck_step_L1_E g d z) l i (t.Vars, t.Init, t.Goal, t.Ops, c.Bound, c.Nogoods, r) = some ((stepL t c d l r).1, { t := t, c := c, steps := (stepL t c d l r).2 })
  | [], i, r, _, _ => rfl
  | p :: ps, i, r, hl, hr => by
    rw [Rg, M_ck_step_L1_B]
    show ixv p (fun y37 => ob3 (M_ck_covered g { t := t, c := c, steps := r } y37 d) _) = _
    rw [ixv, ask_eq hd hc g hg p (hl p (List.mem_cons_self ..)) d r hr, ob3_some, stepL]
    have ha := askC_r (t := t) (c := c) (p := p) (d := d) hr
    rcases hq : askC t c p d r with ⟨b, e, r'⟩
    rw [hq] at ha
    cases e with
    | no e => cases b <;> rfl
    | nil =>
      cases b with
      | false => rfl
      | true => exact step_loop hd hc g hg d z ps _ r' (fun x hx => hl x (List.mem_cons_of_mem _ hx)) ha
def distO (c : GCertificate) (n : Nogood) (o : GOp) : Int := if 0 ≤ c.Bound then n.2 + o.Cost else 0
def skipO (c : GCertificate) (n : Nogood) (o : GOp) : Bool := decide (0 ≤ c.Bound ∧ c.Bound ≤ n.2 + o.Cost)
def stepO (t : GTask) (c : GCertificate) (n : Nogood) (o : GOp) (r : Int) : Er × Int :=
  if skipO c n o = true then (.nil, r)
  else match regO t.Vars o n.1 with
    | none => (.no 5, r)
    | some l => stepL t c (distO c n o) l r
theorem stepO_r (t : GTask) (c : GCertificate) (n : Nogood) (o : GOp) (r : Int) (h : 0 ≤ r ∧ r ≤ 1048576) : 0 ≤ (stepO t c n o r).2 ∧ (stepO t c n o r).2 ≤ 1048576 := by
  unfold stepO
  split
  · exact h
  · split
    · exact h
    · exact stepL_r _ _ _ _ _ h
theorem regO_len {t : GTask} (hgood : goodF t = true) {p : List Fact} (hpf : propF t.Vars (-1) p = true) {o : GOp} (ho : o ∈ t.Ops) {l : List (List Fact)} (h : regO t.Vars o p = some l) : PropL t.Vars l ∧ l.length ≤ 1024 := by
  unfold regO at h
  cases hr : regG t.Vars o p [o.Pre] with
  | none => rw [hr] at h; cases h
  | some m =>
    rw [hr, Option.map_some] at h
    obtain rfl := Option.some.inj h
    obtain ⟨l1, -, l3⟩ := pre_prop hgood hpf ho hr
    refine ⟨fun x hx => l1 x (List.mem_filter.1 ((sortLL_mem x _).1 hx)).1, ?_⟩
    rw [sortLL_length]
    exact Nat.le_trans (List.length_filter_le _ _) l3
theorem good_cost {t : GTask} (h : goodF t = true) {o : GOp} (ho : o ∈ t.Ops) : 0 ≤ o.Cost ∧ o.Cost ≤ 1048576 := by
  unfold goodF at h
  simp only [Bool.and_eq_true, List.all_eq_true] at h
  have := h.2.2.2.2 o ho
  unfold opF at this
  simp only [Bool.and_eq_true, decide_eq_true_iff] at this
  exact ⟨this.1.1, this.1.2.1⟩
theorem step_eq {t : GTask} (ht : ShT t) (hgood : goodF t = true) {c : GCertificate} (hc : CertP t.Vars c) (g : Nat) (hg : 70 ≤ g) (n : Nogood) (hn : n ∈ c.Nogoods) (j : Nat) (o : GOp) (hj : t.Ops[j]? = some o) (r : Int) (hr : 0 ≤ r ∧ r ≤ 1048576) :
    M_ck_step g { t := t, c := c, steps := r } n j = some ((stepO t c n o r).1, { t := t, c := c, steps := (stepO t c n o r).2 }) := by
  have hd := good_dom hgood
  have ho := List.mem_of_getElem? hj
  have hcost := good_cost hgood ho
  have hn0 := hc.d0 n hn
  have hn1 := hc.d1 n hn
  have hb1 := hc.b1
  have hw : 0 ≤ c.Bound → IntKind.i64.wrap (n.2 + o.Cost) = n.2 + o.Cost := fun h => wrap_eq (by omega) (by have := hn1 h; omega)
  have hreg : ∀ v : Int, v = distO c n o → skipO c n o = false → ob2 (M_g_Regress g t (j : Int) n.1) (fun z7 z8 =>
      erM z8 (M_ck_step_L1 g v z7 ((((z7.map cL_cF).length : Int)).toNat + 1) 0 t.Vars t.Init t.Goal t.Ops c.Bound c.Nogoods r)
       (fun e9 => some ((Er.no e9), ({ t := t, c := c, steps := r } : GChecker)))) = some ((stepO t c n o r).1, { t := t, c := c, steps := (stepO t c n o r).2 }) := by
    intro v hv hs
    rw [regress_eq t ht hgood n.1 (hc.prop n hn) g hg (j : Int) o (by omega) (by rw [Int.toNat_natCast]; exact hj), ob2_res, stepO, hs, if_neg (by decide)]
    cases hro : regO t.Vars o n.1 with
    | none => rfl
    | some l =>
      obtain ⟨l1, l2⟩ := regO_len hgood (hc.prop n hn) ho hro
      simp only
      rw [M_ck_step_L1_eq g v l _ _ _ _ _ _ _ (by omega), step_loop hd hc g hg v l l 0 r l1 hr, hv]
  rw [M_ck_step]
  simp only [sel_dec, ge_iff_le]
  by_cases h : 0 ≤ c.Bound
  · rw [if_pos h, ix_at hj, hw h]
    by_cases h2 : c.Bound ≤ n.2 + o.Cost
    · have hs : skipO c n o = true := decide_eq_true ⟨h, h2⟩
      rw [if_pos h2, ob1_some, osum_inr, stepO, hs, if_pos rfl]
    · rw [if_neg h2, ob1_some, osum_inl]
      exact hreg _ (by rw [distO, if_pos h]) (decide_eq_false (by omega))
  · rw [if_neg h, ob1_some, osum_inl]
    exact hreg _ (by rw [distO, if_neg h]) (decide_eq_false (by omega))
/-- the operators for one nogood: the steps left, or where it fails -/
def opsC (t : GTask) (c : GCertificate) (n : Nogood) (i : Int) : List GOp → Int → Int → Int ⊕ (Int × Int × Er)
  | [], _, r => .inl r
  | o :: os, j, r => match stepO t c n o r with
    | (.nil, r') => opsC t c n i os (j + 1) r'
    | (.no e, _) => .inr (i, j, .no e)
def nogC (t : GTask) (c : GCertificate) : List Nogood → Int → Int → Int × Int × Er
  | [], _, _ => (-1, -1, .nil)
  | n :: ns, i, r => match opsC t c n i t.Ops 0 r with
    | .inl r' => nogC t c ns (i + 1) r'
    | .inr x => x
theorem opsC_r (t : GTask) (c : GCertificate) (n : Nogood) (i : Int) : ∀ (l : List GOp) (j r : Int), 0 ≤ r ∧ r ≤ 1048576 → ∀ r', opsC t c n i l j r = .inl r' → 0 ≤ r' ∧ r' ≤ 1048576
  | [], j, r, h, r', e => by rw [opsC] at e; injection e with e; omega
  | o :: os, j, r, h, r', e => by
    have hs := stepO_r t c n o r h
    rw [opsC] at e
    rcases hq : stepO t c n o r with ⟨x, y⟩
    rw [hq] at e hs
    cases x with
    | no x => cases e
    | nil => exact opsC_r t c n i os (j + 1) y hs r' e
theorem ops_loop {t : GTask} (ht : ShT t) (hgood : goodF t = true) {c : GCertificate} (hc : CertP t.Vars c) (g : Nat) (hg : 70 ≤ g) (n : Nogood) (hn : n ∈ c.Nogoods) (i : Int) : ∀ (l : List GOp) (m j : Nat) (r : Int), t.Ops.drop j = l → l.length = m → 0 ≤ r ∧ r ≤ 1048576 →
    Rn (M_checker_Where_L2_B t g i n) (M_checker_Where_L2_E t g i n) m j (t.Vars, t.Init, t.Goal, t.Ops, c.Bound, c.Nogoods, r) = some (match opsC t c n i l j r with | .inl r' => .inl (t.Vars, t.Init, t.Goal, t.Ops, c.Bound, c.Nogoods, r') | .inr x => .inr x)
  | [], m, j, r, _, hm, _ => by subst hm; rfl
  | o :: os, m, j, r, hdr, hm, hr => by
    obtain ⟨hj, hd', hlt⟩ := drop_cons hdr
    obtain ⟨m, rfl⟩ : ∃ k, m = k + 1 := ⟨os.length, hm.symm⟩
    rw [Rn, M_checker_Where_L2_B]
    show ob2 (M_ck_step g { t := t, c := c, steps := r } n (j : Int)) _ = _
    have hs := stepO_r t c n o r hr
    rw [step_eq ht hgood hc g hg n hn j o hj r hr, ob2_some, opsC]
    rcases hq : stepO t c n o r with ⟨x, y⟩
    rw [hq] at hs
    cases x with
    | no x => rfl
    | nil => exact ops_loop ht hgood hc g hg n hn i os m (j + 1) y hd' (by simpa using hm) hs
theorem nog_loop {t : GTask} (ht : ShT t) (hgood : goodF t = true) {c : GCertificate} (hc : CertP t.Vars c) (g : Nat) (hg : 70 ≤ g) : ∀ (l : List Nogood) (i r : Int), (∀ n ∈ l, n ∈ c.Nogoods) → 0 ≤ r ∧ r ≤ 1048576 →
    Rg (M_checker_Where_L3_B t c g) (M_checker_Where_L3_E t c g) l i (t.Vars, t.Init, t.Goal, t.Ops, c.Bound, c.Nogoods, r) = some (nogC t c l i r)
  | [], i, r, _, _ => rfl
  | n :: ns, i, r, hl, hr => by
    have hops : t.Ops.length ≤ 4096 := by
      unfold goodF at hgood
      simp only [Bool.and_eq_true, decide_eq_true_iff] at hgood
      exact hgood.1.2
    rw [Rg, M_checker_Where_L3_B]
    show ob1 (ixv n (fun y231 => M_checker_Where_L2 t g i y231 ((((t.Ops.map cGOp).length : Int)).toNat + 1) 0 t.Vars t.Init t.Goal t.Ops c.Bound c.Nogoods r)) _ = _
    rw [ixv, M_checker_Where_L2_eq t g i n _ _ _ _ _ _ _ (m := t.Ops.length) (by rw [List.length_map]) (by omega)]
    have e := ops_loop ht hgood hc g hg n (hl n (List.mem_cons_self ..)) i t.Ops t.Ops.length 0 r rfl rfl hr
    have e' : Rn (M_checker_Where_L2_B t g i n) (M_checker_Where_L2_E t g i n) t.Ops.length 0 (t.Vars, t.Init, t.Goal, t.Ops, c.Bound, c.Nogoods, r) = _ := e
    rw [e', ob1_some, nogC]
    have hr2 := opsC_r t c n i t.Ops 0 r hr
    show osum _ _ (match opsC t c n i t.Ops 0 r with | .inl r' => _ | .inr x => _) = _
    cases ho : opsC t c n i t.Ops 0 r with
    | inl r' => exact nog_loop ht hgood hc g hg ns _ r' (fun x hx => hl x (List.mem_cons_of_mem _ hx)) (hr2 r' ho)
    | inr x => rfl
/-- what Where answers for a right task and certificate -/
def whereC (t : GTask) (c : GCertificate) (r : Int) : Int × Int × Er :=
  if c.Nogoods.any (fun n => holdsF t.Init n.1) = true then (-1, -1, .no 20)
  else if c.Bound = 0 then nogC t c c.Nogoods 0 r
  else match askC t c t.Goal 0 r with
    | (true, .nil, r') => nogC t c c.Nogoods 0 r'
    | (false, .nil, _) => (-1, -1, .no 13)
    | (_, .no e, _) => (-1, -1, .no e)
def whereF (t : GTask) (c : GCertificate) (steps : Int) : Int × Int × Er :=
  match checkF t with
  | .no e => (-1, -1, .no e)
  | .nil => match properF t.Vars c with
    | .no e => (-1, -1, .no e)
    | .nil => whereC t c (max 0 (min steps 1048576))
theorem where_eq (t : GTask) (ht : ShT t) (c : GCertificate) (hc : ShC c) (steps : Int) (g : Nat) (hg : 70 ≤ g) : M_checker_Where g t c steps = some (whereF t c steps) := by
  rw [M_checker_Where, check_eq t ht, ob1_some, whereF]
  cases hck : checkF t with
  | no e => rfl
  | nil =>
    have hgood := (good_check t).2 hck
    show ob1 (M_ce_Proper t.Vars c) _ = _
    rw [cproper_eq t.Vars c hc, ob1_some]
    cases hpr : properF t.Vars c with
    | no e => rfl
    | nil =>
      have hcp := (properF_nil t.Vars c).1 hpr
      have hd := good_dom hgood
      have e1 := M_checker_Where_L1_eq t c hc.list.lt
      have hr : 0 ≤ max 0 (min steps 1048576) ∧ max 0 (min steps 1048576) ≤ 1048576 := by omega
      have hgoal : propF t.Vars (-1) t.Goal = true := by
        unfold goodF at hgood
        simp only [Bool.and_eq_true] at hgood
        exact hgood.2.2.2.1
      show ob1 (M_checker_Where_L1 t c _ 0) _ = _
      rw [e1, rg_all (p := fun n : Nogood => !holdsF t.Init n.1) (c := some (.inr ((-1), (-1), (Er.no 20)))), whereC]
      · have hna : (c.Nogoods.all fun n => !holdsF t.Init n.1) = !(c.Nogoods.any fun n => holdsF t.Init n.1) := by rw [List.not_any_eq_all_not]
        rw [hna]
        cases ha : c.Nogoods.any fun n => holdsF t.Init n.1 with
        | true => rfl
        | false =>
          rw [Bool.not_false, if_pos rfl, M_checker_Where_L1_E, ob1_some, osum_inl, if_neg (by decide)]
          have hnog : ∀ r : Int, 0 ≤ r ∧ r ≤ 1048576 → M_checker_Where_L3 t c g ((((c.Nogoods.map cN).length : Int)).toNat + 1) 0 t.Vars t.Init t.Goal t.Ops c.Bound c.Nogoods r = some (nogC t c c.Nogoods 0 r) := fun r hr => by
            rw [M_checker_Where_L3_eq t c g _ _ _ _ _ _ _ hc.list.lt, nog_loop ht hgood hcp g hg c.Nogoods 0 r (fun _ h => h) hr]
          by_cases hb : c.Bound = 0
          · rw [if_pos hb, show (c.Bound != 0) = false from by simp [hb], sel_ff, ob1_some, osum_inl]
            exact hnog _ hr
          · rw [if_neg hb, show (c.Bound != 0) = true from by simp [hb], sel_tt, ask_eq hd hcp g hg t.Goal hgoal 0 _ hr, ob3_some]
            have ha := askC_r (t := t) (c := c) (p := t.Goal) (d := 0) hr
            rcases hq : askC t c t.Goal 0 (max 0 (min steps 1048576)) with ⟨b, e, r'⟩
            rw [hq] at ha
            cases e with
            | no e => cases b <;> rfl
            | nil =>
              cases b with
              | false => rfl
              | true => exact hnog r' ha
      · intro n hn i rc
        rw [M_checker_Where_L1_B, ixv, tholds_eq n.1 t.Init (hc.each n hn), ob1_some]
        cases holdsF t.Init n.1 <;> rfl
def verF (t : GTask) (c : GCertificate) (steps : Int) : Er := (whereF t c steps).2.2
theorem verify_eq (t : GTask) (ht : ShT t) (c : GCertificate) (hc : ShC c) (steps : Int) (g : Nat) (hg : 70 ≤ g) : M_checker_Verify g t c steps = some (verF t c steps) := by
  rw [M_checker_Verify, where_eq t ht c hc steps g hg]
  rfl
end Go.Proofs.YtcpajbglcgbolaaGreat.Am
/- Plain: the law's example. -/
namespace Go.Proofs.YtcpajbglcgbolaaGreat.Am
open Go.RowKit
def ex31 : GTask := { Vars := [2], Init := [0], Goal := [(0, 1)], Ops := [] }
theorem ex31_a : verF ex31 { Bound := -1, Nogoods := [([(0, 1)], 0)] } 100 = .nil := by rfl
theorem ex31_b : verF ex31 { Bound := -1, Nogoods := [] } 100 = .no 13 := by rfl
theorem ex31_sh : ShT ex31 := ⟨by show _ ≤ _; decide, by show _ ≤ _; decide, by show _ ≤ _; decide, by show _ ≤ _; decide, fun o ho => by cases ho⟩
theorem awake_eq (g : Nat) (hg : 70 ≤ g) : M_l31_awake g = some true := by
  rw [M_l31_awake]
  have h1 := verify_eq ex31 ex31_sh { Bound := -1, Nogoods := [([(0, 1)], 0)] } ⟨by show _ ≤ _; decide, fun n hn => by rw [List.mem_singleton.1 hn]; show _ ≤ _; decide⟩ 100 g hg
  have h2 := verify_eq ex31 ex31_sh { Bound := -1, Nogoods := [] } ⟨by show _ ≤ _; decide, fun n hn => by cases hn⟩ 100 g hg
  rw [ex31_a] at h1
  rw [ex31_b] at h2
  unfold ex31 at h1 h2
  rw [h1, ob1_some]
  show ob1 (M_checker_Verify g _ _ 100) _ = _
  rw [h2]
  rfl
end Go.Proofs.YtcpajbglcgbolaaGreat.Am
/- Models printed by my decompiler, and the proofs that the code computes them. -/
namespace Go.Proofs.YtcpajbglcgbolaaGreat.Am
open Go.RowKit
theorem ci_XDStp {p K : Prop} (k : K) (h : p := by first | rfl | exact ⟨rfl, rfl⟩ | exact BW.fr FrV.h | (refine BW.fr ?_; assumption) | (refine ⟨rfl, ?_⟩; (simp [cGTask, cI, cF, cGOp, cGEffect, cGCertificate, cN, take_len_map]; done)) | (refine RowK.same ?_ FrI.h; first | rfl | (simp [cGTask, cI, cF, cGOp, cGEffect, cGCertificate, cN, take_len_map]; done)) | (refine row_part1 ?_; (repeat (first | exact BWL.nil | exact bwll_nil | exact bw_c | exact BW.sl | exact BW.nil | exact bwll_same rfl FrI.h | refine BWL.cons ?_ ?_ | refine bwll_cons ?_ ?_ | (refine bw_own3 rfl rfl rfl FrI.h ?_ ?_ ?_) | exact BW.fr FrV.h | exact BW.fr (by assumption) | refine bw_agg ?_ | refine bw_clo ?_ | refine bw_ptr rfl rfl rfl ?_ | (refine bw_own rfl rfl rfl ?_ FrI.h ?_ ?_) | assumption | omega | rfl | (rw [List.length_map, ← List.length_append]; assumption) | (refine bwll_same ?_ FrI.h; (simp [cGTask, cI, cF, cGOp, cGEffect, cGCertificate, cN] <;> fail)) | (rw [List.map_set]; refine bwll_set (by first | rfl | omega | simp) ?_ ?_) | refine bwll_set (by first | rfl | omega | simp) ?_ ?_ | (rw [List.map_replicate]; refine bwll_rep ?_) | refine bwll_rep ?_ | (rw [List.map_append]; refine bwll_append ?_ ?_) | refine bwll_append ?_ ?_ | (simp [cGTask, cI, cF, cGOp, cGEffect, cGCertificate, cN, take_len_map] <;> fail) | (rw [List.drop_zero, List.take_of_length_le] <;> first | rfl | (simp [cGTask, cI, cF, cGOp, cGEffect, cGCertificate, cN] <;> fail)) | (simp; omega) | (simp only [List.length_map, List.drop_zero, List.length_cons, List.length_nil, Nat.zero_add, Nat.add_zero] at *; omega))); done) | ((repeat (first | exact BWL.nil | exact bwll_nil | exact bw_c | exact BW.sl | exact BW.nil | exact bwll_same rfl FrI.h | refine BWL.cons ?_ ?_ | refine bwll_cons ?_ ?_ | (refine bw_own3 rfl rfl rfl FrI.h ?_ ?_ ?_) | exact BW.fr FrV.h | exact BW.fr (by assumption) | refine bw_agg ?_ | refine bw_clo ?_ | refine bw_ptr rfl rfl rfl ?_ | (refine bw_own rfl rfl rfl ?_ FrI.h ?_ ?_) | assumption | omega | rfl | (rw [List.length_map, ← List.length_append]; assumption) | (refine bwll_same ?_ FrI.h; (simp [cGTask, cI, cF, cGOp, cGEffect, cGCertificate, cN] <;> fail)) | (rw [List.map_set]; refine bwll_set (by first | rfl | omega | simp) ?_ ?_) | refine bwll_set (by first | rfl | omega | simp) ?_ ?_ | (rw [List.map_replicate]; refine bwll_rep ?_) | refine bwll_rep ?_ | (rw [List.map_append]; refine bwll_append ?_ ?_) | refine bwll_append ?_ ?_ | (simp [cGTask, cI, cF, cGOp, cGEffect, cGCertificate, cN, take_len_map] <;> fail) | (rw [List.drop_zero, List.take_of_length_le] <;> first | rfl | (simp [cGTask, cI, cF, cGOp, cGEffect, cGCertificate, cN] <;> fail)) | (simp; omega) | (simp only [List.length_map, List.drop_zero, List.length_cons, List.length_nil, Nat.zero_add, Nat.add_zero] at *; omega))); done) | (simp [cGTask, cI, cF, cGOp, cGEffect, cGCertificate, cN, take_len_map]; done)) : p ∧ K := ⟨h, k⟩
theorem ca_XDStp {P : Prop} (h : P := by repeat (first | exact True.intro | refine ci_XDStp ?_)) : P := h
theorem pr_XDStp {p K : Prop} (k : K) (h : p := by first | assumption | exact Int.natCast_nonneg _ | exact Nat.le_refl _ | exact Nat.zero_le _ | omega | (simp; done) | (simp; omega)) : p ∧ K := ⟨h, k⟩
theorem dr_XDStp {b : Bool} {p K : Prop} (k : K) (h : b = true → p := by intro h; first | (cases h; done) | exact ⟨by kernel_rfl, by kernel_rfl⟩) : (b = true → p) ∧ K := ⟨h, k⟩
theorem cl_XDStp {C : Cx} {n : Nat} {o : Oper} {τ : Nat → AV} {η : Nat → Ent} {f : FuncId} {os : Array Operand} {ats : Array TypeId} {r : AV} {args : List AV} {K : Foot → Prop} (ho : o.op = .call ⟨.value (.func f), os, ats⟩) (hc : ACall C f args r) (k : K ⟨r, [], []⟩)
    (hd : InB n o.dst := by exact Nat.le_of_ble_eq_true rfl) (hargs : os.toList.map (evA τ) = args := by first | rfl | (simp [cGTask, cI, cF, cGOp, cGEffect, cGCertificate, cN]; done) | (repeat (first | exact rfl | refine cons_eq ?_ ?_ | exact sl_dt rfl))) (hfr : frs args := by repeat (first | exact trivial | exact fr1_eA _ | exact fr0_eA _ | exact fr1_fr (by assumption) | exact FrV.h | refine And.intro ?_ ?_)) (hr : fr1 r := by repeat (first | exact trivial | exact fr1_eA _ | exact fr0_eA _ | exact fr1_fr (by assumption) | exact FrV.h | refine And.intro ?_ ?_)) : ∃ f : Foot, LF C n o τ η f ∧ K f := ⟨_, lf_call ho hd hargs hc hfr hr, k⟩
def M_l31_gentle_L1 (y111 : GOp) : Nat → Int → Int → Option (Int)
  | 0, _, _ => none
  | k128 + 1, v126, v127 =>
    sel (decide (v127 < ((y111.Effs.map cGEffect).length : Int)))
     (ix y111.Effs v127 (fun y129 =>
       sel (decide (((y129.When.map cF).length : Int) > 0))
        (M_l31_gentle_L1 y111 k128 (IntKind.i64.wrap (v126 + 1)) (IntKind.i64.wrap (v127 + 1)))
        (M_l31_gentle_L1 y111 k128 v126 (IntKind.i64.wrap (v127 + 1)))))
     (some v126)
def M_l31_gentle_L2 (a0 : GTask) : Nat → Int → Option (Bool)
  | 0, _ => none
  | k89 + 1, v88 =>
    sel (decide (v88 < ((a0.Ops.map cGOp).length : Int)))
     (ob1 (ix a0.Ops v88 (fun y111 =>
        ob1 (M_l31_gentle_L1 y111 ((((y111.Effs.map cGEffect).length : Int)).toNat + 1) 0 0 : Option (Int))
         (fun v120 => sel (decide (v120 > 1))
            (some (.inr false))
            (some (.inl ())))) : Option (Unit ⊕ Bool))
       (osum
       (fun _ => M_l31_gentle_L2 a0 k89 (IntKind.i64.wrap (v88 + 1)))
       (fun r109 => some r109)))
     (some true)
def M_l31_gentle (a0 : GTask) : Option (Bool) :=
  ob1 (ob1 (M_b_Tame a0) (fun z5 =>
    sel (!z5)
     (some (.inr false))
     (ob1 (M_b_Many a0.Vars 100) (fun z6 =>
       sel (decide (z6 > 100))
        (some (.inr false))
        (sel (decide (((a0.Ops.map cGOp).length : Int) > 8))
          (some (.inr false))
          (some (.inl ())))))) : Option (Unit ⊕ Bool))
   (osum
   (fun _ => M_l31_gentle_L2 a0 ((((a0.Ops.map cGOp).length : Int)).toNat + 1) 0)
   (fun r3 => some r3))
set_option maxHeartbeats 16000000 in
set_option maxRecDepth 100000 in
theorem A_l31_gentle (a0 : GTask) {r1 : Bool} (h : M_l31_gentle a0 = some r1) : ACall cx 10 [.agg [.sl 1 (a0.Vars.map cI), .sl 1 (a0.Init.map cI), .sl 2 (a0.Goal.map cF), .sl 4 (a0.Ops.map cGOp)]] (.c (.bool r1)) := by
  refine aOf Tryz.func10 rfl (by decide) rfl (Nat.le_of_ble_eq_true rfl) ?_; intro _; unfold M_l31_gentle at h; refine aSq ?_; refine aRg ?_; intro _; refine dr_XDStp ?_; obtain ⟨o1, h, hK2⟩ := ob1_ok h; refine awp_cut (α := Unit) (fun _ => mkS 47 [(1, .ptr 1 0 0 0)] [(1, ⟨26, 4, true, [[.sl 1 (a0.Vars.map cI), .sl 1 (a0.Init.map cI), .sl 2 (a0.Goal.map cF), .sl 4 (a0.Ops.map cGOp)]]⟩)]) (fun v => o1 = (.inl v)) ?_ ?_
  · refine aSq ?_; refine aRg ?_; intro _; obtain ⟨z5, u3, h⟩ := ob1_ok h; refine cl_XDStp rfl (A_b_Tame a0 u3) ?_; intro _; refine spf h (fun c4 h => ?_) (fun c4 h => ?_)
    · intro _; obtain ⟨z6, u5, h⟩ := ob1_ok h; refine cl_XDStp rfl (A_b_Many a0.Vars 100 u5) ?_; intro _; refine spf h (fun c6 h => ?_) (fun c6 h => ?_)
      · intro _; refine dr_XDStp ?_; refine aCd ?_; intro _; refine spl h (fun c7 h => ?_) (fun c7 h => ?_)
        · refine aSq ?_; refine aRg ?_; intro _; refine dr_XDStp ?_; refine aRt ?_; have j8 := Option.some.inj h; subst j8; replace h := (osum_r hK2); intro _; obtain rfl := inj1 h; exact ca_XDStp
        · refine aSk ?_; refine ⟨(), (Option.some.inj h).symm, ?_⟩; exact ca_XDStp
      · intro _; refine dr_XDStp ?_; refine aCd ?_; intro _; refine litT ?_; refine aSq ?_; refine aRg ?_; intro _; refine dr_XDStp ?_; refine aRt ?_; have j9 := Option.some.inj h; subst j9; replace h := (osum_r hK2); intro _; obtain rfl := inj1 h; exact ca_XDStp
    · intro _; refine dr_XDStp ?_; refine aCd ?_; intro _; refine litT ?_; refine aSq ?_; refine aRg ?_; intro _; refine dr_XDStp ?_; refine aRt ?_; have j10 := Option.some.inj h; subst j10; replace h := (osum_r hK2); intro _; obtain rfl := inj1 h; exact ca_XDStp
  · rintro _ ho; have ho := ho.symm; subst ho; intro _; replace h := (osum_l hK2); refine aSq ?_; refine aSq ?_; refine aRg ?_; intro _; refine dr_XDStp ?_; refine aBk ?_; refine awp_loop (α := Nat × Int) (fun x => mkS 47 [(24, .sl 4 (a0.Ops.map cGOp)), (25, .c (.int .i64 ((a0.Ops.map cGOp).length : Int))), (26, .c (.int .i64 x.2))] []) (fun x => M_l31_gentle_L2 a0 x.1 x.2 = some r1) (fun x => x.1) ((((a0.Ops.map cGOp).length : Int)).toNat + 1, 0) h ?_ ?_
    · exact ca_XDStp
    · intro x11 h; intro _; obtain ⟨k89, m12, h⟩ := succ_of (f := fun n => M_l31_gentle_L2 a0 n x11.2) rfl h; replace h : M_l31_gentle_L2 a0 (k89 + 1) x11.2 = some r1 := h; rw [M_l31_gentle_L2] at h; refine aSq ?_; refine aRg ?_; intro _; refine dr_XDStp ?_; refine aSq ?_; refine aCd ?_; intro _; refine spl h (fun c13 h => ?_) (fun c13 h => ?_)
      · refine aSk ?_; obtain ⟨o14, h, hK15⟩ := ob1_ok h; refine awp_cut (α := Unit) (fun _ => mkS 47 [(24, .sl 4 (a0.Ops.map cGOp)), (25, .c (.int .i64 ((a0.Ops.map cGOp).length : Int))), (26, .c (.int .i64 x11.2))] []) (fun v => o14 = (.inl v)) ?_ ?_
        · refine aBk ?_; refine aSq ?_; refine aRg ?_; intro _; obtain ⟨y111, w16, q17, h⟩ := ix_ok h; refine Exists.intro (cGOp y111) (And.intro (map_at' w16) ?_); intro _; refine pr_XDStp ?_; refine dr_XDStp ?_; refine aSq ?_; refine aRg ?_; intro _; refine dr_XDStp ?_; obtain ⟨o18, h, hK19⟩ := ob1_ok h; refine awp_cut (α := Int) (fun v120 => mkS 47 [(5, .c (.int .i64 v120)), (24, .sl 4 (a0.Ops.map cGOp)), (25, .c (.int .i64 ((a0.Ops.map cGOp).length : Int))), (26, .c (.int .i64 x11.2))] []) (fun v => o18 = v) ?_ ?_
          · refine aSq ?_; refine aRg ?_; intro _; refine dr_XDStp ?_; refine aBk ?_; refine awp_loop (α := Nat × Int × Int) (fun x => mkS 47 [(5, .c (.int .i64 x.2.1)), (24, .sl 4 (a0.Ops.map cGOp)), (25, .c (.int .i64 ((a0.Ops.map cGOp).length : Int))), (26, .c (.int .i64 x11.2)), (31, .sl 3 (y111.Effs.map cGEffect)), (32, .c (.int .i64 ((y111.Effs.map cGEffect).length : Int))), (33, .c (.int .i64 x.2.2))] []) (fun x => M_l31_gentle_L1 y111 x.1 x.2.1 x.2.2 = some o18) (fun x => x.1) ((((y111.Effs.map cGEffect).length : Int)).toNat + 1, 0, 0) h ?_ ?_
            · exact ca_XDStp
            · intro x20 h; intro _; obtain ⟨k128, m21, h⟩ := succ_of (f := fun n => M_l31_gentle_L1 y111 n x20.2.1 x20.2.2) rfl h; replace h : M_l31_gentle_L1 y111 (k128 + 1) x20.2.1 x20.2.2 = some o18 := h; rw [M_l31_gentle_L1] at h; refine aSq ?_; refine aRg ?_; intro _; refine dr_XDStp ?_; refine aSq ?_; refine aCd ?_; intro _; refine spl h (fun c22 h => ?_) (fun c22 h => ?_)
              · refine aSk ?_; refine aSq ?_; refine aBk ?_; refine aSq ?_; refine aRg ?_; intro _; obtain ⟨y129, w23, q24, h⟩ := ix_ok h; refine Exists.intro (cGEffect y129) (And.intro (map_at' w23) ?_); intro _; refine pr_XDStp ?_; refine dr_XDStp ?_; refine aSq ?_; refine aRg ?_; intro _; refine dr_XDStp ?_; refine aCd ?_; intro _; refine spl h (fun c25 h => ?_) (fun c25 h => ?_)
                · refine aRg ?_; intro _; refine dr_XDStp ?_; refine aRg ?_; intro _; refine dr_XDStp ?_; refine ⟨(k128, (IntKind.i64.wrap (x20.2.1 + 1)), (IntKind.i64.wrap (x20.2.2 + 1))), h, ltS m21, ?_⟩; exact ca_XDStp
                · refine aSk ?_; refine aRg ?_; intro _; refine dr_XDStp ?_; refine ⟨(k128, x20.2.1, (IntKind.i64.wrap (x20.2.2 + 1))), h, ltS m21, ?_⟩; exact ca_XDStp
              · refine aEx ?_; refine ⟨x20.2.1, (Option.some.inj h).symm, ?_⟩; exact ca_XDStp
          · rintro v120 ho; have ho := ho.symm; subst ho; intro _; replace h := hK19; refine aSq ?_; refine aRg ?_; intro _; refine dr_XDStp ?_; refine aCd ?_; intro _; refine spl h (fun c26 h => ?_) (fun c26 h => ?_)
            · refine aSq ?_; refine aRg ?_; intro _; refine dr_XDStp ?_; refine aRt ?_; have j27 := Option.some.inj h; subst j27; replace h := (osum_r hK15); intro _; obtain rfl := inj1 h; exact ca_XDStp
            · refine aSk ?_; refine ⟨(), (Option.some.inj h).symm, ?_⟩; exact ca_XDStp
        · rintro _ ho; have ho := ho.symm; subst ho; intro _; replace h := (osum_l hK15); refine aRg ?_; intro _; refine dr_XDStp ?_; refine ⟨(k89, (IntKind.i64.wrap (x11.2 + 1))), h, ltS m12, ?_⟩; exact ca_XDStp
      · refine aEx ?_; refine aSq ?_; refine aRg ?_; intro _; refine dr_XDStp ?_; refine aRt ?_; intro _; obtain rfl := inj1 h; exact ca_XDStp
def M_l31_few_L1 (a0 : GCertificate) : Nat → Int → Option (Bool)
  | 0, _ => none
  | k5 + 1, v4 =>
    sel (decide (v4 < ((a0.Nogoods.map cN).length : Int)))
     (ix a0.Nogoods v4 (fun y6 =>
       sel (decide (((y6.1.map cF).length : Int) > 20))
        (some false)
        (M_l31_few_L1 a0 k5 (IntKind.i64.wrap (v4 + 1)))))
     (some (decide (((a0.Nogoods.map cN).length : Int) ≤ 12)))
def M_l31_few (a0 : GCertificate) : Option (Bool) :=
  M_l31_few_L1 a0 ((((a0.Nogoods.map cN).length : Int)).toNat + 1) 0
set_option maxHeartbeats 16000000 in
set_option maxRecDepth 100000 in
theorem A_l31_few (a0 : GCertificate) {r1 : Bool} (h : M_l31_few a0 = some r1) : ACall cx 11 [.agg [.c (.int .i64 a0.Bound), .sl 2 (a0.Nogoods.map cN)]] (.c (.bool r1)) := by
  refine aOf Tryz.func11 rfl (by decide) rfl (Nat.le_of_ble_eq_true rfl) ?_; intro _; unfold M_l31_few at h; refine aSq ?_; refine aRg ?_; intro _; refine dr_XDStp ?_; refine aSq ?_; refine aSq ?_; refine aRg ?_; intro _; refine dr_XDStp ?_; refine aBk ?_; refine awp_loop (α := Nat × Int) (fun x => mkS 21 [(1, .ptr 1 0 0 0), (6, .sl 2 (a0.Nogoods.map cN)), (7, .c (.int .i64 ((a0.Nogoods.map cN).length : Int))), (8, .c (.int .i64 x.2))] [(1, ⟨29, 2, true, [[.c (.int .i64 a0.Bound), .sl 2 (a0.Nogoods.map cN)]]⟩)]) (fun x => M_l31_few_L1 a0 x.1 x.2 = some r1) (fun x => x.1) ((((a0.Nogoods.map cN).length : Int)).toNat + 1, 0) h ?_ ?_
  · exact ca_XDStp
  · intro x1 h; intro _; obtain ⟨k5, m2, h⟩ := succ_of (f := fun n => M_l31_few_L1 a0 n x1.2) rfl h; replace h : M_l31_few_L1 a0 (k5 + 1) x1.2 = some r1 := h; rw [M_l31_few_L1] at h; refine aSq ?_; refine aRg ?_; intro _; refine dr_XDStp ?_; refine aSq ?_; refine aCd ?_; intro _; refine spl h (fun c3 h => ?_) (fun c3 h => ?_)
    · refine aSk ?_; refine aSq ?_; refine aBk ?_; refine aSq ?_; refine aRg ?_; intro _; obtain ⟨y6, w4, q5, h⟩ := ix_ok h; refine Exists.intro (cN y6) (And.intro (map_at' w4) ?_); intro _; refine pr_XDStp ?_; refine dr_XDStp ?_; refine aSq ?_; refine aRg ?_; intro _; refine dr_XDStp ?_; refine aCd ?_; intro _; refine spl h (fun c6 h => ?_) (fun c6 h => ?_)
      · refine aSq ?_; refine aRg ?_; intro _; refine dr_XDStp ?_; refine aRt ?_; intro _; obtain rfl := inj1 h; exact ca_XDStp
      · refine aSk ?_; refine aRg ?_; intro _; refine dr_XDStp ?_; refine ⟨(k5, (IntKind.i64.wrap (x1.2 + 1))), h, ltS m2, ?_⟩; exact ca_XDStp
    · refine aEx ?_; refine aSq ?_; refine aRg ?_; intro _; refine dr_XDStp ?_; refine aRt ?_; intro _; obtain rfl := inj1 h; exact ca_XDStp
end Go.Proofs.YtcpajbglcgbolaaGreat.Am
/- Range loops of the models as recursions. -/
namespace Go.Proofs.YtcpajbglcgbolaaGreat.Am
def M_l31_gentle_L1_B (_ : GOp) (_y129 : GEffect) (_ : Int) : ((Int)) → (((Int)) → Option (Int)) → Option (Int) := fun v126 rc => ixv _y129 (fun y129 =>
       sel (decide (((y129.When.map cF).length : Int) > 0))
        (rc ((IntKind.i64.wrap (v126 + 1))))
        (rc (v126)))
def M_l31_gentle_L1_E (_ : GOp) : ((Int)) → Option (Int) := fun v126 => some v126
theorem M_l31_gentle_L1_rg (y111 : GOp) (hl : y111.Effs.length < 9223372036854775807) : ∀ (k n : Nat) (v126 : Int), n ≤ y111.Effs.length → y111.Effs.length < k + n → M_l31_gentle_L1 y111 k v126 (n : Int) = Rg (M_l31_gentle_L1_B y111) (M_l31_gentle_L1_E y111) (y111.Effs.drop n) n v126 := by
  intro k n v126
  refine rg_of (L := fun k i (p : ((Int))) => match p with | v126 => M_l31_gentle_L1 y111 k v126 i) hl (fun k n p y hy hn => ?_) (fun k p => ?_) k n v126
  · have h1 := lt_some hy
    have h2 := w64s hn
    first | (simp only [M_l31_gentle_L1, M_l31_gentle_L1_B, List.length_map, decide_lt h1, sel, ix_at hy, ixv, h2]; done) | (simp only [List.length_map] at h1 hy; simp only [M_l31_gentle_L1, M_l31_gentle_L1_B, List.length_map, decide_lt h1, sel, ix_at hy, ixv, h2]; done)
  · simp only [M_l31_gentle_L1, M_l31_gentle_L1_E, List.length_map, decide_ge, sel]
theorem M_l31_gentle_L1_eq (y111 : GOp) (v126 : Int) (hl : y111.Effs.length < 9223372036854775807) : M_l31_gentle_L1 y111 (((y111.Effs.map cGEffect).length : Int).toNat + 1) v126 0 = Rg (M_l31_gentle_L1_B y111) (M_l31_gentle_L1_E y111) y111.Effs 0 v126 := by
  have h := M_l31_gentle_L1_rg y111 hl (y111.Effs.length + 1) 0 v126 (Nat.zero_le _) (by omega)
  rw [List.length_map, Int.toNat_natCast]
  exact h
def M_l31_gentle_L2_B (_ : GTask) (_y111 : GOp) (_ : Int) : Unit → (Unit → Option (Bool)) → Option (Bool) := fun _ rc => ob1 (ixv _y111 (fun y111 =>
        ob1 (M_l31_gentle_L1 y111 ((((y111.Effs.map cGEffect).length : Int)).toNat + 1) 0 0 : Option (Int))
         (fun v120 => sel (decide (v120 > 1))
            (some (.inr false))
            (some (.inl ())))) : Option (Unit ⊕ Bool))
       (osum
       (fun _ => rc ())
       (fun r109 => some r109))
def M_l31_gentle_L2_E (_ : GTask) : Unit → Option (Bool) := fun _ => some true
theorem M_l31_gentle_L2_rg (a0 : GTask) (hl : a0.Ops.length < 9223372036854775807) : ∀ (k n : Nat) , n ≤ a0.Ops.length → a0.Ops.length < k + n → M_l31_gentle_L2 a0 k (n : Int) = Rg (M_l31_gentle_L2_B a0) (M_l31_gentle_L2_E a0) (a0.Ops.drop n) n () := by
  intro k n 
  refine rg_of (L := fun k i (p : Unit) => M_l31_gentle_L2 a0 k i) hl (fun k n p y hy hn => ?_) (fun k p => ?_) k n ()
  · have h1 := lt_some hy
    have h2 := w64s hn
    first | (simp only [M_l31_gentle_L2, M_l31_gentle_L2_B, List.length_map, decide_lt h1, sel, ix_at hy, ixv, h2]; done) | (simp only [List.length_map] at h1 hy; simp only [M_l31_gentle_L2, M_l31_gentle_L2_B, List.length_map, decide_lt h1, sel, ix_at hy, ixv, h2]; done)
  · simp only [M_l31_gentle_L2, M_l31_gentle_L2_E, List.length_map, decide_ge, sel]
theorem M_l31_gentle_L2_eq (a0 : GTask)  (hl : a0.Ops.length < 9223372036854775807) : M_l31_gentle_L2 a0 (((a0.Ops.map cGOp).length : Int).toNat + 1) 0 = Rg (M_l31_gentle_L2_B a0) (M_l31_gentle_L2_E a0) a0.Ops 0 () := by
  have h := M_l31_gentle_L2_rg a0 hl (a0.Ops.length + 1) 0  (Nat.zero_le _) (by omega)
  rw [List.length_map, Int.toNat_natCast]
  exact h
def M_l31_few_L1_B (_ : GCertificate) (_y6 : Nogood) (_ : Int) : Unit → (Unit → Option (Bool)) → Option (Bool) := fun _ rc => ixv _y6 (fun y6 =>
       sel (decide (((y6.1.map cF).length : Int) > 20))
        (some false)
        (rc ()))
def M_l31_few_L1_E (a0 : GCertificate) : Unit → Option (Bool) := fun _ => some (decide (((a0.Nogoods.map cN).length : Int) ≤ 12))
theorem M_l31_few_L1_rg (a0 : GCertificate) (hl : a0.Nogoods.length < 9223372036854775807) : ∀ (k n : Nat) , n ≤ a0.Nogoods.length → a0.Nogoods.length < k + n → M_l31_few_L1 a0 k (n : Int) = Rg (M_l31_few_L1_B a0) (M_l31_few_L1_E a0) (a0.Nogoods.drop n) n () := by
  intro k n 
  refine rg_of (L := fun k i (p : Unit) => M_l31_few_L1 a0 k i) hl (fun k n p y hy hn => ?_) (fun k p => ?_) k n ()
  · have h1 := lt_some hy
    have h2 := w64s hn
    first | (simp only [M_l31_few_L1, M_l31_few_L1_B, List.length_map, decide_lt h1, sel, ix_at hy, ixv, h2]; done) | (simp only [List.length_map] at h1 hy; simp only [M_l31_few_L1, M_l31_few_L1_B, List.length_map, decide_lt h1, sel, ix_at hy, ixv, h2]; done)
  · simp only [M_l31_few_L1, M_l31_few_L1_E, List.length_map, decide_ge, sel]
theorem M_l31_few_L1_eq (a0 : GCertificate)  (hl : a0.Nogoods.length < 9223372036854775807) : M_l31_few_L1 a0 (((a0.Nogoods.map cN).length : Int).toNat + 1) 0 = Rg (M_l31_few_L1_B a0) (M_l31_few_L1_E a0) a0.Nogoods 0 () := by
  have h := M_l31_few_L1_rg a0 hl (a0.Nogoods.length + 1) 0  (Nat.zero_le _) (by omega)
  rw [List.length_map, Int.toNat_natCast]
  exact h
end Go.Proofs.YtcpajbglcgbolaaGreat.Am
/- Plain: stratagembase.Tame; the laws' gentle, few. -/
namespace Go.Proofs.YtcpajbglcgbolaaGreat.Am
open Go.RowKit
def condN (es : List GEffect) : Nat := (es.filter fun e => decide (0 < e.When.length)).length
theorem condN_le (es : List GEffect) : condN es ≤ es.length := List.length_filter_le _ _
theorem condN_cons (e : GEffect) (es : List GEffect) : condN (e :: es) = (if 0 < e.When.length then 1 else 0) + condN es := by
  unfold condN
  rw [List.filter_cons]
  by_cases h : 0 < e.When.length
  · rw [if_pos (decide_eq_true h), if_pos h, List.length_cons]; omega
  · rw [if_neg (by simpa using h), if_neg h]; omega
def twoF (es : List GEffect) : Bool := es.all fun e => decide (e.When.length ≤ 2)
theorem tame2 (o : GOp) : ∀ (r : List GEffect) (i : Int) (v : Nat), v + r.length ≤ 1000000 → Rg (M_b_Tame_L2_B o) (M_b_Tame_L2_E o) r i v = some (if twoF r = true then .inl ((v + condN r : Nat) : Int) else .inr false)
  | [], i, v, _ => rfl
  | e :: r, i, v, h => by
    rw [List.length_cons] at h
    rw [Rg, M_b_Tame_L2_B, ixv, sel_dec, sel_dec, List.length_map, twoF, List.all_cons, condN_cons]
    by_cases h1 : e.When.length > 2
    · rw [if_pos (by omega), decide_eq_false (by omega), Bool.false_and, if_neg (by decide)]
    · rw [if_neg (by omega), decide_eq_true (p := e.When.length ≤ 2) (by omega), Bool.true_and]
      by_cases h2 : 0 < e.When.length
      · rw [if_pos (by omega), if_pos h2, wrap_eq (by omega) (by omega), show ((v : Int) + 1) = ((v + 1 : Nat) : Int) from rfl, tame2 o r _ (v + 1) (by omega), Nat.add_assoc]; rfl
      · rw [if_neg (by omega), if_neg h2, tame2 o r _ v (by omega), Nat.zero_add]; rfl
def tameO (o : GOp) : Bool := twoF o.Effs && decide (condN o.Effs ≤ 3)
def tameF (t : GTask) : Bool := smallF t && (t.Vars.all (fun n => decide (2 ≤ n ∧ n ≤ 4)) && t.Ops.all tameO)
theorem tame_eq (t : GTask) (ht : ShT t) : M_b_Tame t = some (tameF t) := by
  rw [M_b_Tame, small_eq t ht, ob1_some, tameF]
  cases hs : smallF t with
  | false => rfl
  | true =>
    obtain ⟨hgood, hv, ho⟩ := small_good hs
    have e1 := M_b_Tame_L1_eq t (by omega)
    have e3 := M_b_Tame_L3_eq t (by omega)
    rw [Bool.not_true, sel_ff, e1, rg_all (p := fun n : Int => decide (2 ≤ n ∧ n ≤ 4)) (c := some (.inr false))]
    · cases t.Vars.all fun n => decide (2 ≤ n ∧ n ≤ 4) with
      | false => rfl
      | true =>
        rw [if_pos rfl, M_b_Tame_L1_E, ob1_some, osum_inl, e3, rg_all (p := tameO) (c := some false), M_b_Tame_L3_E]
        · cases t.Ops.all tameO <;> rfl
        · intro o hom i rc
          have hl := (good_op hgood hom).effs
          have e2 := M_b_Tame_L2_eq o 0 (show o.Effs.length < _ by omega)
          have e2' : Rg (M_b_Tame_L2_B o) (M_b_Tame_L2_E o) o.Effs 0 0 = _ := tame2 o o.Effs 0 0 (by omega)
          have hc := condN_le o.Effs
          rw [M_b_Tame_L3_B, ixv, e2, e2', Nat.zero_add, ob1_some, tameO]
          cases twoF o.Effs with
          | false => rfl
          | true =>
            rw [if_pos rfl, osum_inl, sel_dec, Bool.true_and]
            by_cases h3 : condN o.Effs ≤ 3
            · rw [if_neg (by omega), if_pos (decide_eq_true h3)]; rfl
            · rw [if_pos (by omega), if_neg (by simpa using h3)]; rfl
    · intro n _ i rc
      rw [M_b_Tame_L1_B, ixv, sel_dec, sel_dec]
      by_cases h1 : n < 2
      · rw [if_pos h1, if_neg (by rw [decide_eq_true_iff]; omega)]
      · rw [if_neg h1]
        by_cases h2 : n > 4
        · rw [if_pos h2, if_neg (by rw [decide_eq_true_iff]; omega)]
        · rw [if_neg h2, if_pos (by rw [decide_eq_true_iff]; omega)]
def gentleF (t : GTask) : Bool := tameF t && (decide (manyF 100 t.Vars 1 ≤ 100) && (decide (t.Ops.length ≤ 8) && t.Ops.all fun o => decide (condN o.Effs ≤ 1)))
theorem gentle1 (o : GOp) : ∀ (r : List GEffect) (i : Int) (v : Nat), v + r.length ≤ 1000000 → Rg (M_l31_gentle_L1_B o) (M_l31_gentle_L1_E o) r i v = some ((v + condN r : Nat) : Int)
  | [], i, v, _ => rfl
  | e :: r, i, v, h => by
    rw [List.length_cons] at h
    rw [Rg, M_l31_gentle_L1_B, ixv, sel_dec, List.length_map, condN_cons]
    by_cases h2 : 0 < e.When.length
    · rw [if_pos (by omega), if_pos h2, wrap_eq (by omega) (by omega), show ((v : Int) + 1) = ((v + 1 : Nat) : Int) from rfl, gentle1 o r _ (v + 1) (by omega), Nat.add_assoc]
    · rw [if_neg (by omega), if_neg h2, gentle1 o r _ v (by omega), Nat.zero_add]
theorem tame_small {t : GTask} (h : tameF t = true) : smallF t = true := by
  unfold tameF at h
  rw [Bool.and_eq_true] at h
  exact h.1
theorem gentle_tame {t : GTask} (h : gentleF t = true) : tameF t = true := by
  unfold gentleF at h
  rw [Bool.and_eq_true] at h
  exact h.1
theorem gentle_eq (t : GTask) (ht : ShT t) : M_l31_gentle t = some (gentleF t) := by
  rw [M_l31_gentle, tame_eq t ht, gentleF]
  cases hs : tameF t with
  | false => rfl
  | true =>
    obtain ⟨hgood, hv, ho⟩ := small_good (tame_small hs)
    rw [ob1_some, Bool.not_true, sel_ff, many_eq t.Vars ht.vars 100 (by decide), ob1_some, sel_dec, Bool.true_and]
    by_cases h1 : manyF 100 t.Vars 1 ≤ 100
    · rw [if_neg (by omega), decide_eq_true h1, Bool.true_and, sel_dec, List.length_map]
      by_cases h2 : t.Ops.length ≤ 8
      · have e2 := M_l31_gentle_L2_eq t (by omega)
        rw [List.length_map] at e2
        rw [if_neg (by omega), decide_eq_true h2, Bool.true_and, ob1_some, osum_inl, e2, rg_all (p := fun o : GOp => decide (condN o.Effs ≤ 1)) (c := some false), M_l31_gentle_L2_E]
        · cases t.Ops.all fun o => decide (condN o.Effs ≤ 1) <;> rfl
        · intro o hom i rc
          have hl := (good_op hgood hom).effs
          have e1 := M_l31_gentle_L1_eq o 0 (show o.Effs.length < _ by omega)
          have e1' : Rg (M_l31_gentle_L1_B o) (M_l31_gentle_L1_E o) o.Effs 0 0 = _ := gentle1 o o.Effs 0 0 (by omega)
          rw [M_l31_gentle_L2_B, ixv, e1, e1', Nat.zero_add, ob1_some, sel_dec]
          by_cases h3 : condN o.Effs ≤ 1
          · rw [if_neg (by omega), if_pos (decide_eq_true h3)]; rfl
          · rw [if_pos (by omega), if_neg (by simpa using h3)]; rfl
      · rw [if_pos (by omega), decide_eq_false h2]; rfl
    · rw [if_pos (by omega), decide_eq_false h1]; rfl
def fewF (c : GCertificate) : Bool := (c.Nogoods.all fun n => decide (n.1.length ≤ 20)) && decide (c.Nogoods.length ≤ 12)
theorem few_eq (c : GCertificate) (hc : ShC c) : M_l31_few c = some (fewF c) := by
  have e1 := M_l31_few_L1_eq c hc.list.lt
  rw [M_l31_few, e1, rg_all (p := fun n : Nogood => decide (n.1.length ≤ 20)) (c := some false), M_l31_few_L1_E, fewF, List.length_map]
  · have : decide ((c.Nogoods.length : Int) ≤ 12) = decide (c.Nogoods.length ≤ 12) := by congr 1; apply propext; omega
    rw [this]
    cases c.Nogoods.all fun n => decide (n.1.length ≤ 20) <;> rfl
  · intro n _ i rc
    rw [M_l31_few_L1_B, ixv, sel_dec, List.length_map]
    by_cases h : n.1.length ≤ 20
    · rw [if_neg (by omega), if_pos (decide_eq_true h)]
    · rw [if_pos (by omega), if_neg (by simpa using h)]
theorem guard3' {γ : Type} {b1 b2 : Bool} {K : Unit ⊕ Bool → Option γ} {x : Option γ} (h1 : b1 = true → b2 = true → K (.inl ()) = x) (h2 : K (.inr true) = x) : ob1 (ob1 (some b1) (fun z9 => sel (!z9) (ob1 (some true) (fun z14 => some (.inr z14))) (ob1 (some b2) (fun z10 => sel (!z10) (ob1 (some true) (fun z13 => some (.inr z13))) (ob1 (some true) (fun z11 => sel (!z11) (ob1 (some true) (fun z12 => some (.inr z12))) (some (.inl ()))))))) : Option (Unit ⊕ Bool)) K = x := by
  cases b1
  · exact h2
  · cases b2
    · exact h2
    · exact h1 rfl rfl
end Go.Proofs.YtcpajbglcgbolaaGreat.Am
/- Plain: how long a regression is, of an operator with at most one effect with conditions. -/
namespace Go.Proofs.YtcpajbglcgbolaaGreat.Am
open Go.RowKit
theorem joinLL_sub {a b : List (List Fact)} {z : List Fact} (h : z ∈ joinLL a b) : ∃ x ∈ a, ∃ y ∈ b, ∀ w, w ∈ z ↔ w ∈ x ∨ w ∈ y := by
  obtain ⟨x, hx, y, hy, hj⟩ := (joinLL_mem z a b).1 h
  exact ⟨x, hx, y, hy, (joinO_some hj).2⟩
/-- at most one effect has conditions: on the variable v, the conditions w -/
structure OneC (v : Int) (w : List Fact) (es : List GEffect) : Prop where
  one : condN es ≤ 1
  is : ∀ e ∈ es, 0 < e.When.length → e.Var = v ∧ e.When = w
theorem condN_zero {es : List GEffect} (h : condN es = 0) : ∀ e ∈ es, e.When = [] := fun e he => by
  refine Decidable.byContradiction fun hne => ?_
  have : e ∈ es.filter fun e => decide (0 < e.When.length) := List.mem_filter.2 ⟨he, decide_eq_true (List.length_pos_iff.2 hne)⟩
  have := List.length_pos_of_mem this
  unfold condN at h
  omega
theorem OneC.tail {v : Int} {w : List Fact} {e : GEffect} {es : List GEffect} (h : OneC v w (e :: es)) : OneC v w es := by
  have h1 := h.one
  rw [condN_cons] at h1
  exact ⟨by omega, fun u hu => h.is u (List.mem_cons_of_mem _ hu)⟩
theorem OneC.rest {v : Int} {w : List Fact} {e : GEffect} {es : List GEffect} (h : OneC v w (e :: es)) (he : e.When ≠ []) : e.When = w ∧ ∀ u ∈ es, u.When = [] := by
  have h1 := h.one
  have hp := List.length_pos_iff.2 he
  rw [condN_cons, if_pos hp] at h1
  exact ⟨(h.is e (List.mem_cons_self ..) hp).2, condN_zero (by omega)⟩
theorem oneC_of {es : List GEffect} (h : condN es ≤ 1) (h2 : twoF es = true) : ∃ v w, w.length ≤ 2 ∧ OneC v w es := by
  by_cases h0 : condN es = 0
  · exact ⟨0, [], by decide, h, fun e he hp => by rw [condN_zero h0 e he] at hp; exact absurd hp (by decide)⟩
  · have h1 : (es.filter fun e => decide (0 < e.When.length)).length = 1 := by unfold condN at h h0; omega
    obtain ⟨e0, he0⟩ := List.length_eq_one_iff.1 h1
    have hm : e0 ∈ es.filter fun e => decide (0 < e.When.length) := by rw [he0]; exact List.mem_singleton.2 rfl
    refine ⟨e0.Var, e0.When, of_decide_eq_true (List.all_eq_true.1 h2 e0 (List.mem_filter.1 hm).1), h, fun e he hp => ?_⟩
    have : e ∈ es.filter fun e => decide (0 < e.When.length) := List.mem_filter.2 ⟨he, decide_eq_true hp⟩
    rw [he0, List.mem_singleton] at this
    rw [this]; exact ⟨rfl, rfl⟩
theorem OneC.filter {v : Int} {w : List Fact} {es : List GEffect} (h : OneC v w es) (p : GEffect → Bool) : OneC v w (es.filter p) := by
  refine ⟨?_, fun e he => h.is e (List.mem_filter.1 he).1⟩
  refine Nat.le_trans ?_ h.one
  unfold condN
  rw [List.filter_filter]
  have : (es.filter fun a => decide (0 < a.When.length) && p a) = (es.filter fun a => decide (0 < a.When.length)).filter p := by
    rw [List.filter_filter]
    exact List.filter_congr fun a _ => Bool.and_comm _ _
  rw [this]
  exact List.length_filter_le _ _
theorem joinX_nil (x : List Fact) (out : List (List Fact)) : joinX x [] out = out := rfl
theorem joinXX_nil : ∀ (a out : List (List Fact)), joinXX a [] out = out
  | [], _ => rfl
  | x :: r, out => by rw [joinXX, joinX_nil, joinXX_nil r]
theorem joinLL_nil (a : List (List Fact)) : joinLL a [] = [] := joinXX_nil a []
theorem joinX_le (x : List Fact) : ∀ (b out : List (List Fact)), (joinX x b out).length ≤ out.length + b.length
  | [], out => by rw [joinX]; simp
  | y :: r, out => by
    rw [joinX, List.length_cons]
    refine Nat.le_trans (joinX_le x r _) ?_
    split
    · have : (addN out ‹_›).length ≤ out.length + 1 := by unfold addN; split <;> simp
      omega
    · omega
theorem joinXX_le : ∀ (a b out : List (List Fact)), (joinXX a b out).length ≤ out.length + a.length * b.length
  | [], b, out => by rw [joinXX]; simp
  | x :: r, b, out => by
    have h1 := joinXX_le r b (joinX x b out)
    have h2 := joinX_le x b out
    rw [joinXX, List.length_cons, Nat.add_mul]
    omega
theorem joinLL_le (a b : List (List Fact)) : (joinLL a b).length ≤ a.length * b.length := by
  have := joinXX_le a b []
  rw [List.length_nil, Nat.zero_add] at this
  exact this
theorem silF_le {vars : List Int} (hd : ∀ n ∈ vars, n ≤ 4) : ∀ w : List Fact, (silF vars w).length ≤ w.length * 4
  | [] => Nat.le_refl _
  | f :: r => by
    have ih := silF_le hd r
    unfold silF at ih ⊢
    rw [List.flatMap_cons, List.length_append, List.length_cons]
    have h1 := silOne_len f (vars.getD f.1.toNat 0).toNat 0
    have h2 : vars.getD f.1.toNat 0 ≤ 4 := by
      rw [List.getD_eq_getElem?_getD]
      cases hg : vars[f.1.toNat]? with
      | none => simp
      | some n => exact hd n (List.mem_of_getElem? hg)
    omega
theorem capO_of {l : List (List Fact)} (h : l.length ≤ 1024) : capO l = some l := if_pos h
/-- no effect has conditions -/
theorem quiet0 {vars : List Int} {f : Fact} : ∀ (es : List GEffect) (l : List (List Fact)), (∀ e ∈ es, e.When = []) → ∃ j, quietG vars f es l = some j ∧ (j = l ∨ j = [])
  | [], l, _ => ⟨l, rfl, .inl rfl⟩
  | e :: r, l, h => by
    have hr : ∀ u ∈ r, u.When = [] := fun u hu => h u (List.mem_cons_of_mem _ hu)
    rw [quietG]
    split
    · exact quiet0 r l hr
    · rw [h e (List.mem_cons_self ..)]
      have e1 : silF vars [] = [] := rfl
      rw [e1, capO_of (by decide), Option.bind_some, joinLL_nil, capO_of (by decide), Option.bind_some]
      obtain ⟨j, hj, h2⟩ := quiet0 (vars := vars) (f := f) r [] hr
      exact ⟨j, hj, .inr (by rcases h2 with h2 | h2 <;> exact h2)⟩
theorem quiet1 {vars : List Int} {f : Fact} {v : Int} {w : List Fact} (hs : (silF vars w).length ≤ 8) : ∀ (es : List GEffect) (x : List Fact), OneC v w es → ∃ j, quietG vars f es [x] = some j ∧ (j = [x] ∨ j = [] ∨ j = joinLL [x] (silF vars w))
  | [], x, _ => ⟨[x], rfl, .inl rfl⟩
  | e :: r, x, h => by
    rw [quietG]
    split
    · exact quiet1 hs r x h.tail
    · by_cases he : e.When = []
      · rw [he]
        have e1 : silF vars [] = [] := rfl
        rw [e1, capO_of (by decide), Option.bind_some, joinLL_nil, capO_of (by decide), Option.bind_some]
        -- the rest, of an empty list
        have key : ∀ (es : List GEffect), OneC v w es → ∃ j, quietG vars f es [] = some j ∧ j = [] := by
          intro es
          induction es with
          | nil => intro _; exact ⟨[], rfl, rfl⟩
          | cons u r ih =>
            intro hu
            rw [quietG]
            split
            · exact ih hu.tail
            · have hsl : (silF vars u.When).length ≤ 8 := by
                by_cases hw : u.When = []
                · rw [hw]; exact Nat.zero_le _
                · rw [(hu.rest hw).1]; exact hs
              rw [capO_of (by omega), Option.bind_some]
              have : joinLL [] (silF vars u.When) = [] := rfl
              rw [this, capO_of (by decide), Option.bind_some]
              exact ih hu.tail
        obtain ⟨j, hj, h2⟩ := key r h.tail
        exact ⟨j, hj, .inr (.inl h2)⟩
      · obtain ⟨hw, hr⟩ := h.rest he
        have hjl := joinLL_le [x] (silF vars w)
        rw [List.length_singleton, Nat.one_mul] at hjl
        rw [hw, capO_of (by omega), Option.bind_some, capO_of (by omega), Option.bind_some]
        obtain ⟨j, hj, h2⟩ := quiet0 (vars := vars) (f := f) r (joinLL [x] (silF vars w)) hr
        exact ⟨j, hj, by rcases h2 with h2 | h2; exact .inr (.inr h2); exact .inr (.inl h2)⟩
theorem foldN_nodup {α : Type} [DecidableEq α] : ∀ (l out : List α), out.Nodup → (l.foldl addN out).Nodup
  | [], _, h => h
  | y :: r, out, h => foldN_nodup r _ (addN_nodup h y)
/-- lists without repetition, by what they hold -/
theorem nodup_le {α : Type} [DecidableEq α] : ∀ (l u : List α), l.Nodup → (∀ x ∈ l, x ∈ u) → l.length ≤ u.length
  | [], _, _, _ => Nat.zero_le _
  | x :: r, u, hn, hs => by
    obtain ⟨h1, h2⟩ := List.nodup_cons.1 hn
    have hx := hs x (List.mem_cons_self ..)
    have ih := nodup_le r (u.erase x) h2 (fun y hy => (List.mem_erase_of_ne (fun e : y = x => h1 (e ▸ hy))).2 (hs y (List.mem_cons_of_mem _ hy)))
    rw [List.length_erase_of_mem hx] at ih
    have := List.length_pos_of_mem hx
    rw [List.length_cons]; omega
theorem cases0 {vars : List Int} {f : Fact} : ∀ (es : List GEffect), (∀ e ∈ es, e.When = []) → ∃ out, casesG vars f es = some out ∧ out.Nodup ∧ ∀ z ∈ out, z = []
  | [], _ => ⟨[], rfl, List.nodup_nil, fun z hz => by cases hz⟩
  | e :: r, h => by
    obtain ⟨out, ho, hn, hz⟩ := cases0 (vars := vars) (f := f) r (fun u hu => h u (List.mem_cons_of_mem _ hu))
    rw [casesG, ho, Option.bind_some]
    split
    · obtain ⟨j, hj, hj2⟩ := quiet0 (vars := vars) (f := f) r [e.When] (fun u hu => h u (List.mem_cons_of_mem _ hu))
      rw [hj, Option.map_some]
      refine ⟨_, rfl, foldN_nodup _ _ hn, fun z hzm => ?_⟩
      rcases (foldN_mem z j out).1 hzm with hzm | hzm
      · exact hz z hzm
      · rcases hj2 with rfl | rfl
        · rw [List.mem_singleton.1 hzm]; exact h e (List.mem_cons_self ..)
        · cases hzm
    · exact ⟨out, rfl, hn, hz⟩
def uL (vars : List Int) (w : List Fact) : List (List Fact) := [] :: w :: joinLL [[]] (silF vars w)
theorem cases1c {vars : List Int} {f : Fact} {v : Int} {w : List Fact} (hs : (silF vars w).length ≤ 8) : ∀ (es : List GEffect), OneC v w es → ∃ out, casesG vars f es = some out ∧ out.Nodup ∧ ∀ z ∈ out, z ∈ uL vars w
  | [], _ => ⟨[], rfl, List.nodup_nil, fun z hz => by cases hz⟩
  | e :: r, h => by
    obtain ⟨out, ho, hn, hz⟩ := cases1c (f := f) hs r h.tail
    rw [casesG, ho, Option.bind_some]
    split
    · by_cases he : e.When = []
      · obtain ⟨j, hj, hj2⟩ := quiet1 (f := f) hs r e.When h.tail
        rw [hj, Option.map_some]
        refine ⟨_, rfl, foldN_nodup _ _ hn, fun z hzm => ?_⟩
        rcases (foldN_mem z j out).1 hzm with hzm | hzm
        · exact hz z hzm
        · rw [he] at hj2
          rcases hj2 with rfl | rfl | rfl
          · rw [List.mem_singleton.1 hzm]; exact List.mem_cons_self ..
          · cases hzm
          · exact List.mem_cons_of_mem _ (List.mem_cons_of_mem _ hzm)
      · obtain ⟨hw, hr⟩ := h.rest he
        obtain ⟨j, hj, hj2⟩ := quiet0 (vars := vars) (f := f) r [e.When] hr
        rw [hj, Option.map_some]
        refine ⟨_, rfl, foldN_nodup _ _ hn, fun z hzm => ?_⟩
        rcases (foldN_mem z j out).1 hzm with hzm | hzm
        · exact hz z hzm
        · rcases hj2 with rfl | rfl
          · rw [List.mem_singleton.1 hzm, hw]; exact List.mem_cons_of_mem _ (List.mem_cons_self ..)
          · cases hzm
    · exact ⟨out, rfl, hn, hz⟩
def uF (vars : List Int) (w : List Fact) (f : Fact) : List (List Fact) := [f] :: (uL vars w ++ joinLL [[f]] (silF vars w))
theorem uF_len {vars : List Int} {w : List Fact} (hs : (silF vars w).length ≤ 8) (f : Fact) : (uF vars w f).length ≤ 19 := by
  have h1 := joinLL_le [[]] (silF vars w)
  have h2 := joinLL_le [[f]] (silF vars w)
  rw [List.length_singleton, Nat.one_mul] at h1 h2
  unfold uF uL
  simp only [List.length_cons, List.length_append]
  omega
/-- the cases of a fact whose variable no effect with conditions sets -/
theorem casesO_0 {vars : List Int} {o : GOp} {f : Fact} (h : ∀ e ∈ o.Effs, e.Var = f.1 → e.When = []) : ∃ c, casesO vars o f = some c ∧ c.length ≤ 2 ∧ ∀ z ∈ c, z = [] ∨ z = [f] := by
  have hw : ∀ e ∈ o.Effs.filter (fun e => e.Var == f.1), e.When = [] := fun e he => by
    obtain ⟨h1, h2⟩ := List.mem_filter.1 he
    exact h e h1 (by simpa using h2)
  obtain ⟨out, ho, hn, hz⟩ := cases0 (vars := vars) (f := f) _ hw
  obtain ⟨j, hj, hj2⟩ := quiet0 (vars := vars) (f := f) _ [[f]] hw
  have hmem : ∀ z ∈ j.foldl addN out, z = [] ∨ z = [f] := fun z hzm => by
    rcases (foldN_mem z j out).1 hzm with hzm | hzm
    · exact .inl (hz z hzm)
    · rcases hj2 with rfl | rfl
      · exact .inr (List.mem_singleton.1 hzm)
      · cases hzm
  have hlen : (j.foldl addN out).length ≤ 2 := nodup_le _ [[], [f]] (foldN_nodup _ _ hn) (fun z hzm => by rcases hmem z hzm with rfl | rfl <;> simp)
  refine ⟨j.foldl addN out, ?_, hlen, hmem⟩
  rw [casesO, casesE, ho, Option.bind_some, hj, Option.map_some, Option.bind_some, capO_of (by omega)]
theorem casesO_1 {vars : List Int} {o : GOp} {f : Fact} {v : Int} {w : List Fact} (hs : (silF vars w).length ≤ 8) (h : OneC v w o.Effs) : ∃ c, casesO vars o f = some c ∧ c.length ≤ 19 ∧ ∀ z ∈ c, z ∈ uF vars w f := by
  have hw := h.filter (fun e => e.Var == f.1)
  obtain ⟨out, ho, hn, hz⟩ := cases1c (f := f) hs _ hw
  obtain ⟨j, hj, hj2⟩ := quiet1 (f := f) hs _ [f] hw
  have hmem : ∀ z ∈ j.foldl addN out, z ∈ uF vars w f := fun z hzm => by
    rcases (foldN_mem z j out).1 hzm with hzm | hzm
    · exact List.mem_cons_of_mem _ (List.mem_append.2 (.inl (hz z hzm)))
    · rcases hj2 with rfl | rfl | rfl
      · rw [List.mem_singleton.1 hzm]; exact List.mem_cons_self ..
      · cases hzm
      · exact List.mem_cons_of_mem _ (List.mem_append.2 (.inr hzm))
  have hlen : (j.foldl addN out).length ≤ 19 := Nat.le_trans (nodup_le _ _ (foldN_nodup _ _ hn) hmem) (uF_len hs f)
  refine ⟨j.foldl addN out, ?_, hlen, hmem⟩
  rw [casesO, casesE, ho, Option.bind_some, hj, Option.map_some, Option.bind_some, capO_of (by omega)]
/-- there are never too many cases -/
theorem regG_some {vars : List Int} {o : GOp} {v : Int} {w : List Fact} (hs : (silF vars w).length ≤ 8) (h : OneC v w o.Effs) : ∀ (p : List Fact) (l : List (List Fact)) (c : Nat), Asc p → ((∃ f ∈ p, f.1 = v) → 10 ≤ c) → 1 ≤ c → l.length * (2 ^ p.length * c) ≤ 1024 → ∃ j, regG vars o p l = some j
  | [], l, c, _, _, _, _ => ⟨l, rfl⟩
  | f :: r, l, c, ha, hc, h1, hl => by
    obtain ⟨ha1, ha2⟩ := List.pairwise_cons.1 ha
    rw [List.length_cons, Nat.pow_succ] at hl
    have hp : 1 ≤ 2 ^ r.length := Nat.one_le_two_pow
    by_cases hv : f.1 = v
    · obtain ⟨cs, hcs, hlen, -⟩ := casesO_1 (f := f) hs h
      have hj := joinLL_le l cs
      have hc10 := hc ⟨f, List.mem_cons_self .., hv⟩
      have hm : (joinLL l cs).length * 2 ^ r.length ≤ 1024 := by
        have a1 : (joinLL l cs).length ≤ l.length * 20 := Nat.le_trans hj (Nat.mul_le_mul_left _ (by omega))
        have a2 : l.length * 20 * 2 ^ r.length ≤ l.length * (2 ^ r.length * 2 * c) := by
          rw [Nat.mul_assoc]
          refine Nat.mul_le_mul_left _ ?_
          rw [Nat.mul_comm 20, Nat.mul_assoc]
          exact Nat.mul_le_mul_left _ (by omega)
        exact Nat.le_trans (Nat.mul_le_mul_right _ a1) (Nat.le_trans a2 hl)
      have hcap : (joinLL l cs).length ≤ 1024 := Nat.le_trans (Nat.le_mul_of_pos_right _ hp) hm
      rw [regG, hcs, Option.bind_some, capO_of hcap, Option.bind_some]
      refine regG_some hs h r _ 1 ha2 ?_ (Nat.le_refl _) (by rw [Nat.mul_one]; exact hm)
      rintro ⟨u, hu, e⟩
      have := ha1 u hu
      omega
    · obtain ⟨cs, hcs, hlen, -⟩ := casesO_0 (vars := vars) (o := o) (f := f) (fun e he hev => Decidable.byContradiction fun hne => by
        have := (h.is e he (List.length_pos_iff.2 hne)).1
        omega)
      have hj := joinLL_le l cs
      have hm : (joinLL l cs).length * (2 ^ r.length * c) ≤ 1024 := by
        have a1 : (joinLL l cs).length ≤ l.length * 2 := Nat.le_trans hj (Nat.mul_le_mul_left _ hlen)
        have a2 : l.length * 2 * (2 ^ r.length * c) = l.length * (2 ^ r.length * 2 * c) := by
          rw [Nat.mul_assoc, ← Nat.mul_assoc 2, Nat.mul_comm 2]
        exact Nat.le_trans (Nat.mul_le_mul_right _ a1) (by rw [a2]; exact hl)
      have hpc : 1 ≤ 2 ^ r.length * c := Nat.mul_pos hp h1
      have hcap : (joinLL l cs).length ≤ 1024 := Nat.le_trans (Nat.le_mul_of_pos_right _ hpc) hm
      rw [regG, hcs, Option.bind_some, capO_of hcap, Option.bind_some]
      exact regG_some hs h r _ c ha2 (fun ⟨u, hu, e⟩ => hc ⟨u, List.mem_cons_of_mem _ hu, e⟩) h1 hm
theorem regG_sub {vars : List Int} {o : GOp} : ∀ (p : List Fact) (l j : List (List Fact)), regG vars o p l = some j → ∀ z ∈ j, ∃ x ∈ l, ∀ u ∈ x, u ∈ z
  | [], l, j, h, z, hz => by rw [regG] at h; cases h; exact ⟨z, hz, fun _ h => h⟩
  | f :: r, l, j, h, z, hz => by
    rw [regG] at h
    cases hc : casesO vars o f with
    | none => rw [hc] at h; cases h
    | some c =>
      rw [hc, Option.bind_some] at h
      cases hj : capO (joinLL l c) with
      | none => rw [hj] at h; cases h
      | some m =>
        rw [hj, Option.bind_some] at h
        obtain ⟨rfl, -⟩ := capO_some hj
        obtain ⟨x1, hx1, hs⟩ := regG_sub r _ j h z hz
        obtain ⟨x, hx, y, hy, he⟩ := joinLL_sub hx1
        exact ⟨x, hx, fun u hu => hs u ((he u).2 (.inl hu))⟩
/-- the facts that are kept whatever the case -/
def stayL (vars : List Int) (o : GOp) (v : Int) (p : List Fact) : List Fact := p.filter fun f => decide (f.1 ≠ v) && !decide ([] ∈ (casesO vars o f).getD [])
theorem regG_small {vars : List Int} {o : GOp} {v : Int} {w : List Fact} (hs : (silF vars w).length ≤ 8) (h : OneC v w o.Effs) : ∀ (p : List Fact) (l j : List (List Fact)), Asc p → PropL vars l → (∀ f ∈ p, propF vars (-1) [f] = true) → WhenP vars o.Effs → regG vars o p l = some j → ∀ z ∈ j, propF vars (-1) z = true → ∀ x ∈ l, (∀ u ∈ x, u ∈ z) →
    ∃ z' ∈ j, (∀ u ∈ z', u ∈ z) ∧ ∃ q : List Fact, (q = [] ∨ ∃ f ∈ p, f.1 = v ∧ q ∈ uF vars w f) ∧ ∀ u, u ∈ z' ↔ u ∈ x ∨ u ∈ stayL vars o v p ∨ u ∈ q
  | [], l, j, _, _, _, _, hj, z, _, _, x, hx, hxz => by
    rw [regG] at hj
    cases hj
    exact ⟨x, hx, hxz, [], .inl rfl, fun u => by simp [stayL]⟩
  | f :: r, l, j, ha, hl, hpf, hwp, hj, z, hz, hzp, x, hx, hxz => by
    obtain ⟨ha1, ha2⟩ := List.pairwise_cons.1 ha
    rw [regG] at hj
    cases hc : casesO vars o f with
    | none => rw [hc] at hj; cases hj
    | some c =>
      rw [hc, Option.bind_some] at hj
      cases hcap : capO (joinLL l c) with
      | none => rw [hcap] at hj; cases hj
      | some m =>
        rw [hcap, Option.bind_some] at hj
        obtain ⟨rfl, -⟩ := capO_some hcap
        have hcp := (casesO_prop hwp (hpf f (List.mem_cons_self ..)) hc).1
        obtain ⟨x1, hx1, hsub⟩ := regG_sub r _ j hj z hz
        obtain ⟨x0, hx0, y, hy, he⟩ := joinLL_sub hx1
        have hyz : ∀ u ∈ y, u ∈ z := fun u hu => hsub u ((he u).2 (.inr hu))
        obtain ⟨hzn, hza, hzr⟩ := prop_vf hzp
        -- a union of parts of z
        have hjoin : ∀ y' ∈ c, (∀ u ∈ y', u ∈ z) → ∃ x1' ∈ joinLL l c, (∀ u, u ∈ x1' ↔ u ∈ x ∨ u ∈ y') := fun y' hy' hyz' => by
          cases hjo : joinO x y' with
          | some x1' => exact ⟨x1', (joinLL_mem x1' l c).2 ⟨x, hx, y', hy', hjo⟩, (joinO_some hjo).2⟩
          | none =>
            refine absurd ?_ (joinO_none (propF_vF' (hl x hx)) (propF_vF' (hcp y' hy')) hjo)
            intro u hu u' hu' e
            have hm : ∀ u ∈ x ++ y', u ∈ z := fun u hu => by rcases List.mem_append.1 hu with h | h; exact hxz u h; exact hyz' u h
            rw [asc_inj hza (hm u hu) (hm u' hu') e]
        have hlj : PropL vars (joinLL l c) := joinLL_prop hl hcp
        have hstep : ∀ y' ∈ c, (∀ u ∈ y', u ∈ z) → ∃ z' ∈ j, (∀ u ∈ z', u ∈ z) ∧ ∃ q : List Fact, (q = [] ∨ ∃ g ∈ r, g.1 = v ∧ q ∈ uF vars w g) ∧ ∀ u, u ∈ z' ↔ (u ∈ x ∨ u ∈ y') ∨ u ∈ stayL vars o v r ∨ u ∈ q := fun y' hy' hyz' => by
          obtain ⟨x1', m1, m2⟩ := hjoin y' hy' hyz'
          obtain ⟨z', z1, z2, q, q1, q2⟩ := regG_small hs h r _ j ha2 hlj (fun g hg => hpf g (List.mem_cons_of_mem _ hg)) hwp hj z hz hzp x1' m1 (fun u hu => by rcases (m2 u).1 hu with h | h; exact hxz u h; exact hyz' u h)
          exact ⟨z', z1, z2, q, q1, fun u => by rw [q2 u, m2 u]⟩
        by_cases hv : f.1 = v
        · obtain ⟨z', z1, z2, q, q1, q2⟩ := hstep y hy hyz
          have hq0 : q = [] := by
            rcases q1 with q1 | ⟨g, hg, hgv, -⟩
            · exact q1
            · have := ha1 g hg; omega
          subst hq0
          obtain ⟨c', hc', -, hcu⟩ := casesO_1 (vars := vars) (o := o) (f := f) hs h
          rw [hc] at hc'
          obtain rfl := Option.some.inj hc'
          refine ⟨z', z1, z2, y, .inr ⟨f, List.mem_cons_self .., hv, hcu y hy⟩, fun u => ?_⟩
          have hk : stayL vars o v (f :: r) = stayL vars o v r := by unfold stayL; rw [List.filter_cons, if_neg (by simp [hv])]
          rw [q2 u, hk]
          simp only [List.not_mem_nil, or_false]
          rw [or_assoc, or_comm (a := u ∈ y)]
        · obtain ⟨c', hc', -, hcu⟩ := casesO_0 (vars := vars) (o := o) (f := f) (fun e he hev => Decidable.byContradiction fun hne => by
            have := (h.is e he (List.length_pos_iff.2 hne)).1
            omega)
          rw [hc] at hc'
          obtain rfl := Option.some.inj hc'
          by_cases hnil : ([] : List Fact) ∈ c
          · obtain ⟨z', z1, z2, q, q1, q2⟩ := hstep [] hnil (fun u hu => by cases hu)
            refine ⟨z', z1, z2, q, q1.imp id (fun ⟨g, hg, h1, h2⟩ => ⟨g, List.mem_cons_of_mem _ hg, h1, h2⟩), fun u => ?_⟩
            have hk : stayL vars o v (f :: r) = stayL vars o v r := by unfold stayL; rw [List.filter_cons, if_neg (by simp [hc, hnil])]
            rw [q2 u, hk]
            simp only [List.not_mem_nil, or_false]
          · have hyf : y = [f] := (hcu y hy).resolve_left fun e => hnil (e ▸ hy)
            subst hyf
            obtain ⟨z', z1, z2, q, q1, q2⟩ := hstep [f] hy hyz
            refine ⟨z', z1, z2, q, q1.imp id (fun ⟨g, hg, h1, h2⟩ => ⟨g, List.mem_cons_of_mem _ hg, h1, h2⟩), fun u => ?_⟩
            have hk : stayL vars o v (f :: r) = f :: stayL vars o v r := by unfold stayL; rw [List.filter_cons, if_pos (by simp [hv, hc, hnil])]
            rw [q2 u, hk, List.mem_singleton, List.mem_cons, or_assoc, or_assoc]
/-- a regression of an operator with at most one effect with conditions: at most twenty partial states -/
theorem regO_few {t : GTask} (hgood : goodF t = true) (hd : ∀ n ∈ t.Vars, n ≤ 4) (hv6 : t.Vars.length ≤ 6) {p : List Fact} (hpf : propF t.Vars (-1) p = true) {o : GOp} (ho : o ∈ t.Ops) (h1 : condN o.Effs ≤ 1) (h2 : twoF o.Effs = true) : ∃ l, regO t.Vars o p = some l ∧ l.length ≤ 20 := by
  obtain ⟨v, w, hw, hone⟩ := oneC_of h1 h2
  have hs : (silF t.Vars w).length ≤ 8 := by have := silF_le hd w; omega
  obtain ⟨hpn, hpa, hpr⟩ := prop_vf hpf
  have hpl := propF_len' hpf
  have hoo := good_op hgood ho
  have hp6 : 2 ^ p.length ≤ 64 := Nat.le_trans (Nat.pow_le_pow_right (by decide) (show p.length ≤ 6 by omega)) (by decide)
  obtain ⟨m, hm⟩ := regG_some hs hone p [o.Pre] 10 hpa (fun _ => Nat.le_refl _) (by decide) (by rw [List.length_singleton]; omega)
  obtain ⟨m1, m2, m3⟩ := pre_prop hgood hpf ho hm
  refine ⟨sortLL (minF m), by rw [regO, hm, Option.map_some], ?_⟩
  rw [sortLL_length]
  have hprep : PropL t.Vars [o.Pre] := fun x hx => by rw [List.mem_singleton.1 hx]; exact hoo.pre
  have key : ∀ z ∈ minF m, ∃ q : List Fact, (q = [] ∨ ∃ f ∈ p, f.1 = v ∧ q ∈ uF t.Vars w f) ∧ ∀ u, u ∈ z ↔ u ∈ o.Pre ∨ u ∈ stayL t.Vars o v p ∨ u ∈ q := fun z hz => by
    obtain ⟨hzm, hzk⟩ := List.mem_filter.1 hz
    obtain ⟨x, hx, hxz⟩ := regG_sub p _ m hm z hzm
    rw [List.mem_singleton.1 hx] at hxz
    obtain ⟨z', z1, z2, q, q1, q2⟩ := regG_small hs hone p [o.Pre] m hpa hprep (fun f hf => propF_one hpf hf) hoo.when hm z hzm (m1 z hzm) o.Pre (List.mem_singleton.2 rfl) hxz
    have hzz : z' = z := by
      unfold keepF at hzk
      have := List.all_eq_true.1 hzk z' z1
      rw [subF_iff.2 z2] at this
      simpa using this
    subst hzz
    exact ⟨q, q1, q2⟩
  -- the choices
  obtain ⟨U, hU, hUq⟩ : ∃ U : List (List Fact), U.length ≤ 20 ∧ ∀ q : List Fact, (q = [] ∨ ∃ f ∈ p, f.1 = v ∧ q ∈ uF t.Vars w f) → q ∈ U := by
    by_cases hf : ∃ f ∈ p, f.1 = v
    · obtain ⟨f, hf, hfv⟩ := hf
      refine ⟨[] :: uF t.Vars w f, by rw [List.length_cons]; have := uF_len hs f; omega, fun q hq => ?_⟩
      rcases hq with rfl | ⟨g, hg, hgv, hq⟩
      · exact List.mem_cons_self ..
      · have : g = f := asc_inj hpa hg hf (by omega)
        rw [this] at hq
        exact List.mem_cons_of_mem _ hq
    · refine ⟨[[]], by decide, fun q hq => ?_⟩
      rcases hq with rfl | ⟨g, hg, hgv, hq⟩
      · exact List.mem_cons_self ..
      · exact absurd ⟨g, hg, hgv⟩ hf
  have hinj : ∀ (l : List (List Fact)), l.Nodup → (∀ z ∈ l, z ∈ minF m) → ∃ qs : List (List Fact), qs.length = l.length ∧ qs.Nodup ∧ (∀ q ∈ qs, q ∈ U) ∧ ∀ q ∈ qs, ∃ z ∈ l, ∀ u, u ∈ z ↔ u ∈ o.Pre ∨ u ∈ stayL t.Vars o v p ∨ u ∈ q := by
    intro l
    induction l with
    | nil => intro _ _; exact ⟨[], rfl, List.nodup_nil, (fun q hq => by cases hq), (fun q hq => by cases hq)⟩
    | cons z r ih =>
      intro hn hz
      obtain ⟨n1, n2⟩ := List.nodup_cons.1 hn
      obtain ⟨qs, a1, a2, a3, a4⟩ := ih n2 (fun u hu => hz u (List.mem_cons_of_mem _ hu))
      obtain ⟨q, q1, q2⟩ := key z (hz z (List.mem_cons_self ..))
      refine ⟨q :: qs, by rw [List.length_cons, List.length_cons, a1], List.nodup_cons.2 ⟨fun hq => ?_, a2⟩, fun u hu => ?_, fun u hu => ?_⟩
      · obtain ⟨z2, hz2, e2⟩ := a4 q hq
        have : z = z2 := asc_unique z z2 (prop_vf (m1 z (List.mem_filter.1 (hz z (List.mem_cons_self ..))).1)).2.1 (prop_vf (m1 z2 (List.mem_filter.1 (hz z2 (List.mem_cons_of_mem _ hz2))).1)).2.1 (fun u => by rw [q2 u, e2 u])
        exact n1 (this ▸ hz2)
      · rcases List.mem_cons.1 hu with rfl | hu
        · exact hUq u q1
        · exact a3 u hu
      · rcases List.mem_cons.1 hu with rfl | hu
        · exact ⟨z, List.mem_cons_self .., q2⟩
        · obtain ⟨z2, hz2, e2⟩ := a4 u hu
          exact ⟨z2, List.mem_cons_of_mem _ hz2, e2⟩
  obtain ⟨qs, a1, a2, a3, -⟩ := hinj (minF m) (m2.filter _) (fun _ h => h)
  rw [← a1]
  exact Nat.le_trans (nodup_le qs U a2 a3) hU
end Go.Proofs.YtcpajbglcgbolaaGreat.Am
/- Plain: what it means that a certificate is accepted, with any number of steps. -/
namespace Go.Proofs.YtcpajbglcgbolaaGreat.Am
open Go.RowKit
def claimsF (ns : List Nogood) (s : List Int) (d : Int) : Bool := ns.any fun n => decide (n.2 ≤ d) && holdsF s n.1
theorem some_count {s : List Int} {ns : List Nogood} {d : Int} : some1 s (countL ns d) ↔ claimsF ns s d = true := by
  unfold some1 countL claimsF
  rw [List.any_eq_true]
  constructor
  · rintro ⟨z, hz, h⟩
    obtain ⟨n, hn, rfl⟩ := List.mem_map.1 hz
    obtain ⟨h1, h2⟩ := List.mem_filter.1 hn
    exact ⟨n, h1, by rw [h2, h]; rfl⟩
  · rintro ⟨n, hn, h⟩
    rw [Bool.and_eq_true] at h
    exact ⟨n.1, List.mem_map.2 ⟨n, List.mem_filter.2 ⟨hn, h.1⟩, rfl⟩, h.2⟩
def covB (t : GTask) (c : GCertificate) (d : Int) (p : List Fact) : Bool := (covA t.Vars p (countL c.Nogoods d)).1
theorem covB_true {t : GTask} (hgood : goodF t = true) {c : GCertificate} (hc : CertP t.Vars c) {p : List Fact} (hp : propF t.Vars (-1) p = true) (d : Int) : covB t c d p = true ↔ ∀ s, stateF t.Vars s = true → holdsF s p = true → claimsF c.Nogoods s d = true := by
  rw [covB, covA_true (good_dom hgood) hp (count_prop hc d)]
  exact forall_congr' fun s => by rw [some_count]
/-- whether the state leads by the operator to p -/
def inF (o : GOp) (p : List Fact) (s : List Int) : Bool := holdsF s o.Pre && holdsF (nextF s o) p
theorem inF_iff {t : GTask} (hgood : goodF t = true) {o : GOp} (ho : o ∈ t.Ops) {s : List Int} (hs : StP t.Vars s) {p : List Fact} (hp : propF t.Vars (-1) p = true) {l : List (List Fact)} (h : regO t.Vars o p = some l) : some1 s l ↔ inF o p s = true := by
  rw [some_regO hgood ho hs hp h, inF, Bool.and_eq_true, holds_next hgood hs ho hp]
/-- the document's conditions -/
structure Acc (t : GTask) (c : GCertificate) : Prop where
  init : ∀ n ∈ c.Nogoods, holdsF t.Init n.1 = false
  goal : c.Bound ≠ 0 → ∀ s ∈ allF t, holdsF s t.Goal = true → claimsF c.Nogoods s 0 = true
  step : ∀ n ∈ c.Nogoods, ∀ o ∈ t.Ops, skipO c n o = false → ∀ s ∈ allF t, inF o n.1 s = true → claimsF c.Nogoods s (distO c n o) = true
theorem good_goal {t : GTask} (h : goodF t = true) : propF t.Vars (-1) t.Goal = true := by
  unfold goodF at h
  simp only [Bool.and_eq_true] at h
  exact h.2.2.2.1
end Go.Proofs.YtcpajbglcgbolaaGreat.Am
/- Plain: checker.Where with enough steps, judged by all states. -/
namespace Go.Proofs.YtcpajbglcgbolaaGreat.Am
open Go.RowKit
theorem sum_ge (c : Int → Nat) : ∀ (m : Nat) (x : Int), (∀ y, x ≤ y → y < x + m → 1 ≤ c y) → m ≤ ((List.range m).map fun k : Nat => c (x + k)).sum
  | 0, _, _ => Nat.zero_le _
  | m + 1, x, h => by
    have e : ((fun k : Nat => c (x + k)) ∘ Nat.succ) = fun k : Nat => c (x + 1 + k) := by
      funext k; simp only [Function.comp, Nat.succ_eq_add_one]; congr 1; omega
    rw [List.range_succ_eq_map, List.map_cons, List.sum_cons, List.map_map, e]
    have h0 := h (x + (0 : Nat)) (by omega) (by omega)
    have ih := sum_ge c m (x + 1) (fun y h1 h2 => h y (by omega) (by omega))
    omega
theorem kids_cost2 (f : Int → Bool × Int) (c : Int → Nat) : ∀ (m : Nat) (x a : Int), (∀ y, x ≤ y → y < x + m → 1 ≤ (f y).2 ∧ (f y).2 + 1 ≤ 2 * (c y : Int)) → (kids f m x a).2 + m ≤ a + 2 * ((((List.range m).map fun k : Nat => c (x + k)).sum : Nat) : Int)
  | 0, x, a, _ => by simp [kids]
  | m + 1, x, a, h => by
    have h0 := h x (Int.le_refl _) (by omega)
    have e : ((fun k : Nat => c (x + k)) ∘ Nat.succ) = fun k : Nat => c (x + 1 + k) := by
      funext k; simp only [Function.comp, Nat.succ_eq_add_one]; congr 1; omega
    have e0 : x + ((0 : Nat) : Int) = x := by omega
    rw [List.range_succ_eq_map, List.map_cons, List.sum_cons, List.map_map, e, e0, Int.natCast_add]
    have hs := sum_ge c m (x + 1) (fun y h1 h2 => by have := h y (by omega) (by omega); omega)
    rw [kids]
    split
    · have ih := kids_cost2 f c m (x + 1) (a + (f x).2) (fun y h1 h2 => h y (by omega) (by omega))
      omega
    · show a + (f x).2 + _ ≤ _; omega
theorem decA_cost2 {vars : List Int} (h2 : ∀ n ∈ vars, 2 ≤ n) (S : List (List Int)) (hS : ∀ s, stateF vars s = true → s ∈ S) : ∀ (d : Nat) (p : List Fact) (l : List (List Fact)), DecP vars d p l → (decA vars d p l).2 + 1 ≤ 2 * (cntS S p : Int)
  | 0, p, l, h => h.zero.elim
  | d + 1, p, l, h => by
    have hone : 1 ≤ cntS S p := by
      obtain ⟨s, s1, s2⟩ := some_state h.dom h.prop
      exact List.length_pos_of_mem (List.mem_filter.2 ⟨hS s s1, s2⟩)
    rw [decA]
    split
    · show (1 : Int) + 1 ≤ _; omega
    · split
      · show (1 : Int) + 1 ≤ _; omega
      · rename_i hc hl
        obtain ⟨l1, l2, l3⟩ := h.low hl
        have hm2 : 2 ≤ vars.getD (lowL p (restP p l) vars.length).toNat 0 := by
          rw [List.getD_eq_getElem?_getD, List.getElem?_eq_getElem (by omega), Option.getD_some]
          exact h2 _ (List.getElem_mem _)
        have hk := kids_cost2 (fun x => decA vars d (pwithF p (lowL p (restP p l) vars.length, x)) (restP p l)) (fun x => cntS S (pwithF p (lowL p (restP p l) vars.length, x))) (vars.getD (lowL p (restP p l) vars.length).toNat 0).toNat 0 1
          (fun y y0 y1 => ⟨decA_pos vars d _ _, decA_cost2 h2 S hS d _ _ (h.kid hl y0 (by omega))⟩)
        have hsum := cnt_split (lowL p (restP p l) vars.length) p S (vars.getD (lowL p (restP p l) vars.length).toNat 0).toNat 0 (fun x => cntS S (pwithF p (lowL p (restP p l) vars.length, x))) (fun y => by
          unfold cntS
          refine Nat.le_of_eq (congrArg List.length (List.filter_congr fun s _ => ?_))
          rw [Bool.eq_iff_iff, holds_pwith, Bool.and_eq_true])
        have hle : (S.filter fun s => holdsF s p && decide (0 ≤ s.getD (lowL p (restP p l) vars.length).toNat 0)).length ≤ cntS S p := by
          unfold cntS
          rw [show (S.filter fun s => holdsF s p && decide (0 ≤ s.getD (lowL p (restP p l) vars.length).toNat 0)) = (S.filter fun s => holdsF s p).filter fun s => decide (0 ≤ s.getD (lowL p (restP p l) vars.length).toNat 0) from by
            rw [List.filter_filter]; exact List.filter_congr fun s _ => Bool.and_comm _ _]
          exact List.length_filter_le _ _
        have := Nat.le_trans hsum hle
        omega
theorem statesG_lenM (M : Nat) (hM : 64 ≤ M) : ∀ (r : List Int) (out : List (List Int)), (∀ k ∈ r, 1 ≤ k ∧ k ≤ 64) → out.length ≤ M → manyF M r out.length ≤ M → (statesG r out).length ≤ M
  | [], out, _, hl, _ => hl
  | k :: r, out, hk, hl, hm => by
    obtain ⟨k1, k2⟩ := hk k (List.mem_cons_self ..)
    have hmin : min (max k 0) ((M : Int) + 1) = k := by omega
    rw [manyF, hmin] at hm
    have hb : ¬ ((out.length : Int) * k > M) := fun h => by rw [if_pos h] at hm; omega
    rw [if_neg hb] at hm
    obtain ⟨m, rfl⟩ : ∃ m : Nat, k = m := ⟨k.toNat, by omega⟩
    have hlen : (out.flatMap fun s => extF s m 0).length = out.length * m := flat_ext_len m out
    have hcast : (out.length : Int) * (m : Int) = ((out.length * m : Nat) : Int) := by rw [Int.natCast_mul]
    rw [statesG, Int.toNat_natCast]
    exact statesG_lenM M hM r _ (fun u hu => hk u (List.mem_cons_of_mem _ hu)) (by rw [hlen]; omega) (by rw [hlen, ← hcast]; exact hm)
theorem many_pow : ∀ (r : List Int) (n : Nat), (∀ k ∈ r, 2 ≤ k ∧ k ≤ 64) → n ≤ 100 → manyF 100 r n ≤ 100 → n * 2 ^ r.length ≤ 100
  | [], n, _, hl, _ => by simpa using hl
  | k :: r, n, hk, hl, hm => by
    obtain ⟨k1, k2⟩ := hk k (List.mem_cons_self ..)
    have hmin : min (max k 0) ((100 : Int) + 1) = k := by omega
    rw [manyF, hmin] at hm
    have hb : ¬ ((n : Int) * k > 100) := fun h => by rw [if_pos h] at hm; omega
    rw [if_neg hb] at hm
    obtain ⟨m, rfl⟩ : ∃ m : Nat, k = m := ⟨k.toNat, by omega⟩
    have hcast : (n : Int) * (m : Int) = ((n * m : Nat) : Int) := by rw [Int.natCast_mul]
    rw [hcast] at hb hm
    have ih := many_pow r (n * m) (fun u hu => hk u (List.mem_cons_of_mem _ hu)) (by omega) hm
    rw [List.length_cons, Nat.pow_succ, Nat.mul_comm (2 ^ r.length), ← Nat.mul_assoc]
    exact Nat.le_trans (Nat.mul_le_mul_right _ (Nat.mul_le_mul_left _ (by omega))) ih
/-- what the laws' guards give -/
structure Gen (t : GTask) : Prop where
  good : goodF t = true
  small : smallF t = true
  dom : ∀ n ∈ t.Vars, 2 ≤ n ∧ n ≤ 4
  vars : t.Vars.length ≤ 6
  states : (allF t).length ≤ 100
  ops : t.Ops.length ≤ 8
  two : ∀ o ∈ t.Ops, twoF o.Effs = true
  one : ∀ o ∈ t.Ops, condN o.Effs ≤ 1
theorem gentle_gen {t : GTask} (h : gentleF t = true) : Gen t := by
  have hs := tame_small (gentle_tame h)
  have hgood := (small_good hs).1
  have ht := gentle_tame h
  unfold gentleF at h
  unfold tameF tameO at ht
  simp only [Bool.and_eq_true, decide_eq_true_iff, List.all_eq_true] at h ht
  have hd := ht.2.1
  have hd2 := (good_dom hgood).dom
  have hpow := many_pow t.Vars 1 (fun k hk => ⟨(hd k hk).1, (hd2 k hk).2⟩) (by decide) h.2.1
  refine ⟨hgood, hs, hd, ?_, ?_, h.2.2.1, fun o ho => (ht.2.2 o ho).1, h.2.2.2⟩
  · refine Nat.le_of_not_lt fun hlt => ?_
    have : 2 ^ 7 ≤ 2 ^ t.Vars.length := Nat.pow_le_pow_right (by decide) hlt
    omega
  · exact statesG_lenM 100 (by decide) t.Vars [[]] hd2 (by decide) h.2.1
theorem Gen.cost {t : GTask} (h : Gen t) {p : List Fact} (hp : propF t.Vars (-1) p = true) {l : List (List Fact)} (hl : PropL t.Vars l) : (covA t.Vars p l).2 ≤ 199 := by
  have h1 := decA_cost2 (fun n hn => (h.dom n hn).1) (allF t) (fun s hs => (allF_mem t s).2 hs) _ p l (cov_pre (good_dom h.good) hp hl)
  have h2 : cntS (allF t) p ≤ (allF t).length := List.length_filter_le _ _
  have h3 := h.states
  unfold covA
  omega
theorem ask_ok {t : GTask} (h : Gen t) {c : GCertificate} (hc : CertP t.Vars c) {p : List Fact} (hp : propF t.Vars (-1) p = true) (d r : Int) (hr : 199 ≤ r) : ∃ r', askC t c p d r = (covB t c d p, .nil, r') ∧ r - 199 ≤ r' := by
  have hcost := h.cost hp (count_prop hc d)
  refine ⟨r - (covA t.Vars p (countL c.Nogoods d)).2, ?_, by omega⟩
  rw [askC, if_pos (by omega)]; rfl
theorem stepL_ok {t : GTask} (h : Gen t) {c : GCertificate} (hc : CertP t.Vars c) (d : Int) : ∀ (l : List (List Fact)) (r : Int), PropL t.Vars l → 199 * (l.length : Int) ≤ r → ∃ r', stepL t c d l r = (if l.all (covB t c d) = true then .nil else .no 19, r') ∧ r - 199 * (l.length : Int) ≤ r'
  | [], r, _, _ => ⟨r, rfl, by simp⟩
  | p :: ps, r, hl, hr => by
    rw [List.length_cons] at hr ⊢
    obtain ⟨r1, e1, h1⟩ := ask_ok h hc (hl p (List.mem_cons_self ..)) d r (by omega)
    rw [stepL, e1, List.all_cons]
    cases hb : covB t c d p with
    | false => exact ⟨r1, rfl, by omega⟩
    | true =>
      obtain ⟨r2, e2, h2⟩ := stepL_ok h hc d ps r1 (fun x hx => hl x (List.mem_cons_of_mem _ hx)) (by omega)
      exact ⟨r2, e2, by omega⟩
/-- whether the document finds a state that is not covered -/
def openF (t : GTask) (c : GCertificate) (n : Nogood) (o : GOp) : Bool := !skipO c n o && (allF t).any fun s => inF o n.1 s && !claimsF c.Nogoods s (distO c n o)
theorem cov_open {t : GTask} (hgood : goodF t = true) {c : GCertificate} (hc : CertP t.Vars c) {n : Nogood} (hn : n ∈ c.Nogoods) {o : GOp} (ho : o ∈ t.Ops) {l : List (List Fact)} (hl : regO t.Vars o n.1 = some l) (d : Int) :
    (l.all (covB t c d) = true ↔ ∀ s ∈ allF t, inF o n.1 s = true → claimsF c.Nogoods s d = true) := by
  have hlp := (regO_len hgood (hc.prop n hn) ho hl).1
  rw [List.all_eq_true]
  constructor
  · intro h s hs hi
    have hst := (allF_mem t s).1 hs
    obtain ⟨z, hz, hh⟩ := (inF_iff hgood ho (stateF_st hst) (hc.prop n hn) hl).2 hi
    exact (covB_true hgood hc (hlp z hz) d).1 (h z hz) s hst hh
  · intro h z hz
    exact (covB_true hgood hc (hlp z hz) d).2 fun s hst hh => h s ((allF_mem t s).2 hst) ((inF_iff hgood ho (stateF_st hst) (hc.prop n hn) hl).1 ⟨z, hz, hh⟩)
theorem open_not {t : GTask} {c : GCertificate} {n : Nogood} {o : GOp} (hs : skipO c n o = false) : openF t c n o = false ↔ ∀ s ∈ allF t, inF o n.1 s = true → claimsF c.Nogoods s (distO c n o) = true := by
  rw [openF, hs, Bool.not_false, Bool.true_and, Bool.eq_false_iff, ne_eq, List.any_eq_true]
  constructor
  · intro h s hs hi
    refine Decidable.byContradiction fun hne => h ⟨s, hs, ?_⟩
    rw [hi, Bool.eq_false_iff.2 hne]; rfl
  · rintro h ⟨s, hs, e⟩
    rw [Bool.and_eq_true] at e
    rw [h s hs e.1] at e
    exact absurd e.2 (by decide)
theorem stepO_ok {t : GTask} (h : Gen t) {c : GCertificate} (hc : CertP t.Vars c) {n : Nogood} (hn : n ∈ c.Nogoods) {o : GOp} (ho : o ∈ t.Ops) (r : Int) (hr : 3980 ≤ r) : ∃ r', stepO t c n o r = (if openF t c n o = true then .no 19 else .nil, r') ∧ r - 3980 ≤ r' := by
  rw [stepO]
  cases hs : skipO c n o with
  | true => exact ⟨r, by rw [openF, hs]; rfl, by omega⟩
  | false =>
    obtain ⟨l, hl, hlen⟩ := regO_few h.good (fun k hk => (h.dom k hk).2) h.vars (hc.prop n hn) ho (h.one o ho) (h.two o ho)
    have hlp := (regO_len h.good (hc.prop n hn) ho hl).1
    obtain ⟨r', e, h2⟩ := stepL_ok h hc (distO c n o) l r hlp (by omega)
    rw [if_neg (by decide), hl]
    simp only
    rw [e]
    refine ⟨r', ?_, by omega⟩
    congr 1
    have h3 := cov_open h.good hc hn ho hl (distO c n o)
    have h4 := open_not (t := t) (c := c) (n := n) (o := o) hs
    cases ho2 : openF t c n o with
    | false => rw [if_pos (h3.2 (h4.1 ho2)), if_neg (by decide)]
    | true =>
      rw [if_neg (fun hh => by rw [h4.2 (h3.1 hh)] at ho2; cases ho2), if_pos rfl]
def firstO (t : GTask) (c : GCertificate) (n : Nogood) : List GOp → Int → Option Int
  | [], _ => none
  | o :: os, j => if openF t c n o = true then some j else firstO t c n os (j + 1)
def firstN (t : GTask) (c : GCertificate) : List Nogood → Int → Int × Int × Er
  | [], _ => (-1, -1, .nil)
  | n :: ns, i => match firstO t c n t.Ops 0 with
    | some j => (i, j, .no 19)
    | none => firstN t c ns (i + 1)
theorem opsC_ok {t : GTask} (h : Gen t) {c : GCertificate} (hc : CertP t.Vars c) {n : Nogood} (hn : n ∈ c.Nogoods) (i : Int) : ∀ (l : List GOp) (j r : Int), (∀ o ∈ l, o ∈ t.Ops) → 3980 * (l.length : Int) ≤ r → (∀ k, firstO t c n l j = some k → opsC t c n i l j r = .inr (i, k, .no 19)) ∧ (firstO t c n l j = none → ∃ r', opsC t c n i l j r = .inl r' ∧ r - 3980 * (l.length : Int) ≤ r')
  | [], j, r, _, _ => ⟨fun k e => (by cases e), fun _ => ⟨r, rfl, by simp⟩⟩
  | o :: os, j, r, hl, hr => by
    rw [List.length_cons] at hr ⊢
    obtain ⟨r1, e1, h1⟩ := stepO_ok h hc hn (hl o (List.mem_cons_self ..)) r (by omega)
    rw [opsC, e1, firstO]
    cases openF t c n o with
    | true => exact ⟨fun k e => by rw [if_pos rfl] at e; injection e with e; subst e; rfl, fun e => by rw [if_pos rfl] at e; cases e⟩
    | false =>
      obtain ⟨g1, g2⟩ := opsC_ok h hc hn i os (j + 1) r1 (fun u hu => hl u (List.mem_cons_of_mem _ hu)) (by omega)
      rw [if_neg (by decide), if_neg (by decide)]
      refine ⟨g1, fun e => ?_⟩
      obtain ⟨r', e2, h2⟩ := g2 e
      exact ⟨r', e2, by omega⟩
theorem nogC_ok {t : GTask} (h : Gen t) {c : GCertificate} (hc : CertP t.Vars c) : ∀ (l : List Nogood) (i r : Int), (∀ n ∈ l, n ∈ c.Nogoods) → 31840 * (l.length : Int) ≤ r → nogC t c l i r = firstN t c l i
  | [], i, r, _, _ => rfl
  | n :: ns, i, r, hl, hr => by
    have hops := h.ops
    rw [List.length_cons] at hr
    obtain ⟨g1, g2⟩ := opsC_ok h hc (hl n (List.mem_cons_self ..)) i t.Ops 0 r (fun _ h => h) (by omega)
    rw [nogC, firstN]
    cases hf : firstO t c n t.Ops 0 with
    | some k => rw [g1 k hf]
    | none =>
      obtain ⟨r', e, h2⟩ := g2 hf
      rw [e]
      exact nogC_ok h hc ns (i + 1) r' (fun u hu => hl u (List.mem_cons_of_mem _ hu)) (by omega)
/-- the document's answer for a right task and certificate -/
def refC (t : GTask) (c : GCertificate) : Int × Int × Er :=
  if c.Nogoods.any (fun n => holdsF t.Init n.1) = true then (-1, -1, .no 20)
  else if (c.Bound != 0 && (allF t).any fun s => holdsF s t.Goal && !claimsF c.Nogoods s 0) = true then (-1, -1, .no 13)
  else firstN t c c.Nogoods 0
theorem whereC_ok {t : GTask} (h : Gen t) {c : GCertificate} (hc : CertP t.Vars c) (hf : c.Nogoods.length ≤ 12) : whereC t c 1048576 = refC t c := by
  rw [whereC, refC]
  split
  · rfl
  · by_cases hb : c.Bound = 0
    · rw [if_pos hb, show (c.Bound != 0) = false from by simp [hb], Bool.false_and, if_neg (by decide)]
      exact nogC_ok h hc _ _ _ (fun _ h => h) (by omega)
    · obtain ⟨r', e, h2⟩ := ask_ok h hc (good_goal h.good) 0 1048576 (by decide)
      rw [if_neg hb, e, show (c.Bound != 0) = true from by simp [hb], Bool.true_and]
      have hcov := covB_true h.good hc (good_goal h.good) 0
      cases hq : covB t c 0 t.Goal with
      | true =>
        rw [if_neg]
        · exact nogC_ok h hc _ _ _ (fun _ h => h) (by omega)
        · intro hh
          obtain ⟨s, hs, e⟩ := List.any_eq_true.1 hh
          rw [Bool.and_eq_true] at e
          rw [hcov.1 hq s ((allF_mem t s).1 hs) e.1] at e
          exact absurd e.2 (by decide)
      | false =>
        rw [if_pos]
        refine Decidable.byContradiction fun hne => ?_
        have : covB t c 0 t.Goal = true := hcov.2 fun s hst hh => Decidable.byContradiction fun hc2 => hne (List.any_eq_true.2 ⟨s, (allF_mem t s).2 hst, by rw [hh, Bool.eq_false_iff.2 hc2]; rfl⟩)
        rw [hq] at this
        cases this
def refF (t : GTask) (c : GCertificate) : Int × Int × Er :=
  match checkF t with
  | .no e => (-1, -1, .no e)
  | .nil => match properF t.Vars c with
    | .no e => (-1, -1, .no e)
    | .nil => refC t c
theorem whereF_ok {t : GTask} (h : Gen t) {c : GCertificate} (hf : c.Nogoods.length ≤ 12) : whereF t c 1048576 = refF t c := by
  unfold whereF refF
  cases checkF t with
  | no e => rfl
  | nil =>
    simp only
    cases hp : properF t.Vars c with
    | no e => rfl
    | nil => exact whereC_ok h ((properF_nil t.Vars c).1 hp) hf
end Go.Proofs.YtcpajbglcgbolaaGreat.Am
/- Models printed by my decompiler, and the proofs that the code computes them. -/
namespace Go.Proofs.YtcpajbglcgbolaaGreat.Am
open Go.RowKit
theorem zb_XDSho {P : Prop} (h : P := by repeat (first | exact BWL.nil | exact bwll_nil | exact bw_c | exact BW.sl | exact BW.nil | exact bwll_same rfl FrI.h | refine BWL.cons ?_ ?_ | refine bwll_cons ?_ ?_ | (refine bw_own3 rfl rfl rfl FrI.h ?_ ?_ ?_) | exact BW.fr FrV.h | exact BW.fr (by assumption) | refine bw_agg ?_ | refine bw_clo ?_ | refine bw_ptr rfl rfl rfl ?_ | (refine bw_own rfl rfl rfl ?_ FrI.h ?_ ?_) | assumption | omega | rfl | (rw [List.length_map, ← List.length_append]; assumption) | (refine bwll_same ?_ FrI.h; (simp [cGTask, cI, cF, cGOp, cGEffect, cGCertificate, cN] <;> fail)) | (rw [List.map_set]; refine bwll_set (by first | rfl | omega | simp) ?_ ?_) | refine bwll_set (by first | rfl | omega | simp) ?_ ?_ | (rw [List.map_replicate]; refine bwll_rep ?_) | refine bwll_rep ?_ | (rw [List.map_append]; refine bwll_append ?_ ?_) | refine bwll_append ?_ ?_ | (simp [cGTask, cI, cF, cGOp, cGEffect, cGCertificate, cN, take_len_map] <;> fail) | (rw [List.drop_zero, List.take_of_length_le] <;> first | rfl | (simp [cGTask, cI, cF, cGOp, cGEffect, cGCertificate, cN] <;> fail)) | (simp; omega) | (simp only [List.length_map, List.drop_zero, List.length_cons, List.length_nil, Nat.zero_add, Nat.add_zero] at *; omega))) : P := h
theorem ci_XDSho {p K : Prop} (k : K) (h : p := by first | rfl | exact ⟨rfl, rfl⟩ | exact BW.fr FrV.h | (refine BW.fr ?_; assumption) | (refine ⟨rfl, ?_⟩; (simp [cGTask, cI, cF, cGOp, cGEffect, cGCertificate, cN, take_len_map]; done)) | (refine RowK.same ?_ FrI.h; first | rfl | (simp [cGTask, cI, cF, cGOp, cGEffect, cGCertificate, cN, take_len_map]; done)) | (refine row_part1 ?_; (exact zb_XDSho); done) | ((exact zb_XDSho); done) | (simp [cGTask, cI, cF, cGOp, cGEffect, cGCertificate, cN, take_len_map]; done)) : p ∧ K := ⟨h, k⟩
theorem ca_XDSho {P : Prop} (h : P := by repeat (first | exact True.intro | refine ci_XDSho ?_)) : P := h
theorem pr_XDSho {p K : Prop} (k : K) (h : p := by first | assumption | exact Int.natCast_nonneg _ | exact Nat.le_refl _ | exact Nat.zero_le _ | omega | (simp; done) | (simp; omega)) : p ∧ K := ⟨h, k⟩
theorem pl_XDSho {p K : Prop} (k : K) (h : p := by first | rfl | exact List.length_map _ | (simp; done) | (simp; omega)) : p ∧ K := ⟨h, k⟩
theorem pe_XDSho {p K : Prop} (k : K) (h : p := by first | omega | (simp; omega) | (simp only [List.length_map, List.length_cons, List.length_nil, List.length_append]; omega) | (simp only [List.length_map, List.drop_zero, List.length_cons, List.length_nil, Nat.zero_add, Nat.add_zero] at *; omega)) : p ∧ K := ⟨h, k⟩
theorem dr_XDSho {b : Bool} {p K : Prop} (k : K) (h : b = true → p := by intro h; first | (cases h; done) | exact ⟨by kernel_rfl, by kernel_rfl⟩) : (b = true → p) ∧ K := ⟨h, k⟩
theorem cl_XDSho {C : Cx} {n : Nat} {o : Oper} {τ : Nat → AV} {η : Nat → Ent} {f : FuncId} {os : Array Operand} {ats : Array TypeId} {r : AV} {args : List AV} {K : Foot → Prop} (ho : o.op = .call ⟨.value (.func f), os, ats⟩) (hc : ACall C f args r) (k : K ⟨r, [], []⟩)
    (hd : InB n o.dst := by exact Nat.le_of_ble_eq_true rfl) (hargs : os.toList.map (evA τ) = args := by first | rfl | (simp [cGTask, cI, cF, cGOp, cGEffect, cGCertificate, cN]; done) | (repeat (first | exact rfl | refine cons_eq ?_ ?_ | exact sl_dt rfl))) (hfr : frs args := by repeat (first | exact trivial | exact fr1_eA _ | exact fr0_eA _ | exact fr1_fr (by assumption) | exact FrV.h | refine And.intro ?_ ?_)) (hr : fr1 r := by repeat (first | exact trivial | exact fr1_eA _ | exact fr0_eA _ | exact fr1_fr (by assumption) | exact FrV.h | refine And.intro ?_ ?_)) : ∃ f : Foot, LF C n o τ η f ∧ K f := ⟨_, lf_call ho hd hargs hc hfr hr, k⟩
theorem clb_XDSho {C : Cx} {n : Nat} {o : Oper} {τ : Nat → AV} {η : Nat → Ent} {f : FuncId} {os : Array Operand} {ats : Array TypeId} {r : AV} {xs ys : List AV} {K : Foot → Prop} (bs : List Nat) (ho : o.op = .call ⟨.value (.func f), os, ats⟩) (hargs : os.toList.map (evA τ) = xs) (hc : ACall C f ys r) (k : K ⟨r, [], bs⟩)
    (hd : InB n o.dst := by exact Nat.le_of_ble_eq_true rfl) (hb : BWL η (dropB η bs) xs ys := by exact zb_XDSho) (hr : scal r := by repeat (first | exact trivial | exact scal0_eA _ | exact scal_eA _ | refine And.intro ?_ ?_)) : ∃ f : Foot, LF C n o τ η f ∧ K f := ⟨_, lf_callB bs ho hd hargs hb hc hr, k⟩
def M_b_Clip (a0 : Int) (a1 : Int) (a2 : Int) : Option (Int) :=
  some (max a1 (min a0 a2))
set_option maxHeartbeats 16000000 in
set_option maxRecDepth 100000 in
theorem A_b_Clip (a0 : Int) (a1 : Int) (a2 : Int) {r1 : Int} (h : M_b_Clip a0 a1 a2 = some r1) : ACall cx 20 [.c (.int .i64 a0), .c (.int .i64 a1), .c (.int .i64 a2)] (.c (.int .i64 r1)) := by
  refine aOf Tryz.func20 rfl (by decide) rfl (Nat.le_of_ble_eq_true rfl) ?_; intro _; unfold M_b_Clip at h; refine aSq ?_; refine aRg ?_; intro _; refine dr_XDSho ?_; refine aSq ?_; refine aRg ?_; intro _; refine ⟨_, lf_min rfl (Nat.le_of_ble_eq_true rfl) rfl rfl, ?_⟩; intro _; refine ⟨_, lf_max rfl (Nat.le_of_ble_eq_true rfl) rfl rfl, ?_⟩; intro _; refine dr_XDSho ?_; refine aRt ?_; intro _; obtain rfl := inj1 h; exact ca_XDSho
def M_l31_CheckerShorter_L1 (a0 : GTask) (a1 : GCertificate) (g : Nat) (v18 : Int) : Nat → Int → (List Nogood) → Option (Bool)
  | 0, _, _ => none
  | k26 + 1, v24, v25 =>
    sel (decide (v24 < ((a1.Nogoods.map cN).length : Int)))
     (ix a1.Nogoods v24 (fun y27 =>
       sel (decide (y27.2 < v18))
        (grd ((v25.length + 1) * 32 ≤ 140737488355328) (M_l31_CheckerShorter_L1 a0 a1 g v18 k26 (IntKind.i64.wrap (v24 + 1)) (v25 ++ [y27])))
        (M_l31_CheckerShorter_L1 a0 a1 g v18 k26 (IntKind.i64.wrap (v24 + 1)) v25)))
     (grd (v25.length ≤ 140737488355328) (ob1 (M_checker_Verify g a0 ({ Bound := v18, Nogoods := v25 : GCertificate }) 1048576) (fun z28 =>
       erM z28
        (some true)
        (fun _ => some false))))
def M_l31_CheckerShorter (g : Nat) (a0 : GTask) (a1 : GCertificate) (a2 : Int) : Option (Bool) :=
  ob1 (ob1 (M_l31_gentle a0) (fun z9 =>
    sel (!z9)
     (ob1 (M_l31_awake g) (fun z14 =>
       some (.inr z14)))
     (ob1 (M_l31_few a1) (fun z10 =>
       sel (!z10)
        (ob1 (M_l31_awake g) (fun z13 =>
          some (.inr z13)))
        (ob1 (M_l31_awake g) (fun z11 =>
          sel (!z11)
           (ob1 (M_l31_awake g) (fun z12 =>
             some (.inr z12)))
           (some (.inl ()))))))) : Option (Unit ⊕ Bool))
   (osum
   (fun _ => ob1 (M_checker_Verify g a0 a1 1048576) (fun z15 =>
      erM z15
       (ob1 (M_b_Clip a2 0 100) (fun z17 =>
         ob1 (sel (decide (a1.Bound < 0))
           (some (max z17 1))
           (some (min z17 a1.Bound)) : Option (Int))
          (fun v18 => M_l31_CheckerShorter_L1 a0 a1 g v18 ((((a1.Nogoods.map cN).length : Int)).toNat + 1) 0 [])))
       (fun _ => some true)))
   (fun r7 => some r7))
set_option maxHeartbeats 16000000 in
set_option maxRecDepth 100000 in
theorem A_l31_CheckerShorter (g : Nat) (a0 : GTask) (a1 : GCertificate) (a2 : Int) {r1 : Bool} (h : M_l31_CheckerShorter g a0 a1 a2 = some r1) : ACall cx 6 [.agg [.sl 1 (a0.Vars.map cI), .sl 1 (a0.Init.map cI), .sl 2 (a0.Goal.map cF), .sl 4 (a0.Ops.map cGOp)], .agg [.c (.int .i64 a1.Bound), .sl 2 (a1.Nogoods.map cN)], .c (.int .i64 a2)] (.c (.bool r1)) := by
  refine aOf Tryz.func6 rfl (by decide) rfl (Nat.le_of_ble_eq_true rfl) ?_; intro _; unfold M_l31_CheckerShorter at h; refine aSq ?_; refine aRg ?_; intro _; refine dr_XDSho ?_; obtain ⟨o1, h, hK2⟩ := ob1_ok h; refine awp_cut (α := Unit) (fun _ => mkS 63 [(2, .c (.int .i64 a2)), (3, .ptr 3 0 0 0), (4, .ptr 4 0 0 0)] [(3, ⟨26, 4, true, [[.sl 1 (a0.Vars.map cI), .sl 1 (a0.Init.map cI), .sl 2 (a0.Goal.map cF), .sl 4 (a0.Ops.map cGOp)]]⟩), (4, ⟨29, 2, true, [[.c (.int .i64 a1.Bound), .sl 2 (a1.Nogoods.map cN)]]⟩)]) (fun v => o1 = (.inl v)) ?_ ?_
  · refine aSq ?_; refine aRg ?_; intro _; obtain ⟨z9, u3, h⟩ := ob1_ok h; refine cl_XDSho rfl (A_l31_gentle a0 u3) ?_; intro _; refine spf h (fun c4 h => ?_) (fun c4 h => ?_)
    · intro _; obtain ⟨z10, u5, h⟩ := ob1_ok h; refine cl_XDSho rfl (A_l31_few a1 u5) ?_; intro _; refine spf h (fun c6 h => ?_) (fun c6 h => ?_)
      · intro _; obtain ⟨z11, u7, h⟩ := ob1_ok h; refine cl_XDSho rfl (A_l31_awake g u7) ?_; intro _; refine dr_XDSho ?_; refine aCd ?_; intro _; refine spl h (fun c8 h => ?_) (fun c8 h => ?_)
        · refine aSq ?_; refine aRg ?_; intro _; obtain ⟨z12, u9, h⟩ := ob1_ok h; refine cl_XDSho rfl (A_l31_awake g u9) ?_; intro _; refine dr_XDSho ?_; refine aRt ?_; have j10 := Option.some.inj h; subst j10; replace h := (osum_r hK2); intro _; obtain rfl := inj1 h; exact ca_XDSho
        · refine aSk ?_; refine ⟨(), (Option.some.inj h).symm, ?_⟩; exact ca_XDSho
      · intro _; refine dr_XDSho ?_; refine aCd ?_; intro _; refine litT ?_; refine aSq ?_; refine aRg ?_; intro _; obtain ⟨z13, u11, h⟩ := ob1_ok h; refine cl_XDSho rfl (A_l31_awake g u11) ?_; intro _; refine dr_XDSho ?_; refine aRt ?_; have j12 := Option.some.inj h; subst j12; replace h := (osum_r hK2); intro _; obtain rfl := inj1 h; exact ca_XDSho
    · intro _; refine dr_XDSho ?_; refine aCd ?_; intro _; refine litT ?_; refine aSq ?_; refine aRg ?_; intro _; obtain ⟨z14, u13, h⟩ := ob1_ok h; refine cl_XDSho rfl (A_l31_awake g u13) ?_; intro _; refine dr_XDSho ?_; refine aRt ?_; have j14 := Option.some.inj h; subst j14; replace h := (osum_r hK2); intro _; obtain rfl := inj1 h; exact ca_XDSho
  · rintro _ ho; have ho := ho.symm; subst ho; intro _; replace h := (osum_l hK2); refine aSq ?_; refine aSq ?_; refine aRg ?_; intro _; obtain ⟨z15, u15, h⟩ := ob1_ok h; refine cl_XDSho rfl (A_checker_Verify g a0 a1 1048576 u15) ?_; rcases z15 with _ | e16
    · replace h := erM_nil h; intro _; refine dr_XDSho ?_; refine aCd ?_; intro _; refine litF ?_; refine aSk ?_; refine aSq ?_; refine aRg ?_; intro _; obtain ⟨z17, u16, h⟩ := ob1_ok h; refine cl_XDSho rfl (A_b_Clip a2 0 100 u16) ?_; intro _; refine dr_XDSho ?_; obtain ⟨o17, h, hK18⟩ := ob1_ok h; refine awp_cut (α := Int) (fun v18 => mkS 63 [(3, .ptr 3 0 0 0), (4, .ptr 4 0 0 0), (7, .c (.int .i64 v18))] [(3, ⟨26, 4, true, [[.sl 1 (a0.Vars.map cI), .sl 1 (a0.Init.map cI), .sl 2 (a0.Goal.map cF), .sl 4 (a0.Ops.map cGOp)]]⟩), (4, ⟨29, 2, true, [[.c (.int .i64 a1.Bound), .sl 2 (a1.Nogoods.map cN)]]⟩)]) (fun v => o17 = v) ?_ ?_
      · refine aSq ?_; refine aRg ?_; intro _; refine dr_XDSho ?_; refine aCd ?_; intro _; refine spl h (fun c19 h => ?_) (fun c19 h => ?_)
        · refine aRg ?_; intro _; refine ⟨_, lf_max rfl (Nat.le_of_ble_eq_true rfl) rfl rfl, ?_⟩; intro _; refine dr_XDSho ?_; refine ⟨(max z17 1), (Option.some.inj h).symm, ?_⟩; exact ca_XDSho
        · refine aRg ?_; intro _; refine ⟨_, lf_min rfl (Nat.le_of_ble_eq_true rfl) rfl rfl, ?_⟩; intro _; refine dr_XDSho ?_; refine ⟨(min z17 a1.Bound), (Option.some.inj h).symm, ?_⟩; exact ca_XDSho
      · rintro v18 ho; have ho := ho.symm; subst ho; intro _; replace h := hK18; refine aSq ?_; refine aRg ?_; intro _; refine dr_XDSho ?_; refine aSq ?_; refine aSq ?_; refine aRg ?_; intro _; refine dr_XDSho ?_; refine aBk ?_; refine awp_loop (α := Nat × Int × (List Nogood)) (fun x => mkS 63 [(3, .ptr 3 0 0 0), (7, .c (.int .i64 v18)), (8, .ptr 8 0 0 0), (42, .sl 2 (a1.Nogoods.map cN)), (43, .c (.int .i64 ((a1.Nogoods.map cN).length : Int))), (44, .c (.int .i64 x.2.1))] [(3, ⟨26, 4, true, [[.sl 1 (a0.Vars.map cI), .sl 1 (a0.Init.map cI), .sl 2 (a0.Goal.map cF), .sl 4 (a0.Ops.map cGOp)]]⟩), (8, ⟨29, 2, true, [[.c (.int .i64 v18), .own 56 0 0 x.2.2.length]]⟩), (56, ⟨51, 2, false, x.2.2.map cN⟩)]) (fun x => M_l31_CheckerShorter_L1 a0 a1 g v18 x.1 x.2.1 x.2.2 = some r1) (fun x => x.1) ((((a1.Nogoods.map cN).length : Int)).toNat + 1, 0, []) h ?_ ?_
        · exact ca_XDSho
        · intro x20 h; intro _; obtain ⟨k26, m21, h⟩ := succ_of (f := fun n => M_l31_CheckerShorter_L1 a0 a1 g v18 n x20.2.1 x20.2.2) rfl h; replace h : M_l31_CheckerShorter_L1 a0 a1 g v18 (k26 + 1) x20.2.1 x20.2.2 = some r1 := h; rw [M_l31_CheckerShorter_L1] at h; refine aSq ?_; refine aRg ?_; intro _; refine dr_XDSho ?_; refine aSq ?_; refine aCd ?_; intro _; refine spl h (fun c22 h => ?_) (fun c22 h => ?_)
          · refine aSk ?_; refine aSq ?_; refine aBk ?_; refine aSq ?_; refine aRg ?_; intro _; obtain ⟨y27, w23, q24, h⟩ := ix_ok h; refine Exists.intro (cN y27) (And.intro (map_at' w23) ?_); intro _; refine pr_XDSho ?_; refine dr_XDSho ?_; refine aSq ?_; refine aRg ?_; intro _; refine dr_XDSho ?_; refine aCd ?_; intro _; refine spl h (fun c25 h => ?_) (fun c25 h => ?_)
            · refine aRg ?_; intro _; obtain ⟨q26, h⟩ := grd_ok h; refine pl_XDSho ?_; refine pl_XDSho ?_; refine And.intro (by first | with_reducible assumption | (show (x20.2.2.length + 1) * 32 ≤ 140737488355328; with_reducible assumption) | omega | (simp; omega)) ?_; refine pe_XDSho ?_; refine dr_XDSho ?_; refine aRg ?_; intro _; refine dr_XDSho ?_; refine ⟨(k26, (IntKind.i64.wrap (x20.2.1 + 1)), (x20.2.2 ++ [y27])), h, ltS m21, ?_⟩; exact ca_XDSho
            · refine aSk ?_; refine aRg ?_; intro _; refine dr_XDSho ?_; refine ⟨(k26, (IntKind.i64.wrap (x20.2.1 + 1)), x20.2.2), h, ltS m21, ?_⟩; exact ca_XDSho
          · refine aEx ?_; refine aSq ?_; refine aRg ?_; intro _; obtain ⟨q27, h⟩ := grd_ok h; obtain ⟨z28, u28, h⟩ := ob1_ok h; refine clb_XDSho [56] rfl rfl (A_checker_Verify g a0 ({ Bound := v18, Nogoods := x20.2.2 : GCertificate }) 1048576 u28) ?_; rcases z28 with _ | e29
            · replace h := erM_nil h; intro _; refine dr_XDSho ?_; refine aRt ?_; intro _; obtain rfl := inj1 h; exact ca_XDSho
            · replace h := erM_no h; intro _; refine dr_XDSho ?_; refine aRt ?_; intro _; obtain rfl := inj1 h; exact ca_XDSho
    · replace h := erM_no h; intro _; refine dr_XDSho ?_; refine aCd ?_; intro _; refine litT ?_; refine aSq ?_; refine aRg ?_; intro _; refine dr_XDSho ?_; refine aRt ?_; intro _; obtain rfl := inj1 h; exact ca_XDSho
end Go.Proofs.YtcpajbglcgbolaaGreat.Am
/- Range loops of the models as recursions. -/
namespace Go.Proofs.YtcpajbglcgbolaaGreat.Am
def M_l31_CheckerShorter_L1_B (_ : GTask) (_ : GCertificate) (_ : Nat) (v18 : Int) (_y27 : Nogood) (_ : Int) : ((List Nogood)) → (((List Nogood)) → Option (Bool)) → Option (Bool) := fun v25 rc => ixv _y27 (fun y27 =>
       sel (decide (y27.2 < v18))
        (grd ((v25.length + 1) * 32 ≤ 140737488355328) (rc ((v25 ++ [y27]))))
        (rc (v25)))
def M_l31_CheckerShorter_L1_E (a0 : GTask) (_ : GCertificate) (g : Nat) (v18 : Int) : ((List Nogood)) → Option (Bool) := fun v25 => grd (v25.length ≤ 140737488355328) (ob1 (M_checker_Verify g a0 ({ Bound := v18, Nogoods := v25 : GCertificate }) 1048576) (fun z28 =>
       erM z28
        (some true)
        (fun _ => some false)))
theorem M_l31_CheckerShorter_L1_rg (a0 : GTask) (a1 : GCertificate) (g : Nat) (v18 : Int) (hl : a1.Nogoods.length < 9223372036854775807) : ∀ (k n : Nat) (v25 : List Nogood), n ≤ a1.Nogoods.length → a1.Nogoods.length < k + n → M_l31_CheckerShorter_L1 a0 a1 g v18 k (n : Int) v25 = Rg (M_l31_CheckerShorter_L1_B a0 a1 g v18) (M_l31_CheckerShorter_L1_E a0 a1 g v18) (a1.Nogoods.drop n) n v25 := by
  intro k n v25
  refine rg_of (L := fun k i (p : ((List Nogood))) => match p with | v25 => M_l31_CheckerShorter_L1 a0 a1 g v18 k i v25) hl (fun k n p y hy hn => ?_) (fun k p => ?_) k n v25
  · have h1 := lt_some hy
    have h2 := w64s hn
    first | (simp only [M_l31_CheckerShorter_L1, M_l31_CheckerShorter_L1_B, List.length_map, decide_lt h1, sel, ix_at hy, ixv, h2]; done) | (simp only [List.length_map] at h1 hy; simp only [M_l31_CheckerShorter_L1, M_l31_CheckerShorter_L1_B, List.length_map, decide_lt h1, sel, ix_at hy, ixv, h2]; done)
  · simp only [M_l31_CheckerShorter_L1, M_l31_CheckerShorter_L1_E, List.length_map, decide_ge, sel]
theorem M_l31_CheckerShorter_L1_eq (a0 : GTask) (a1 : GCertificate) (g : Nat) (v18 : Int) (v25 : List Nogood) (hl : a1.Nogoods.length < 9223372036854775807) : M_l31_CheckerShorter_L1 a0 a1 g v18 (((a1.Nogoods.map cN).length : Int).toNat + 1) 0 v25 = Rg (M_l31_CheckerShorter_L1_B a0 a1 g v18) (M_l31_CheckerShorter_L1_E a0 a1 g v18) a1.Nogoods 0 v25 := by
  have h := M_l31_CheckerShorter_L1_rg a0 a1 g v18 hl (a1.Nogoods.length + 1) 0 v25 (Nat.zero_le _) (by omega)
  rw [List.length_map, Int.toNat_natCast]
  exact h
end Go.Proofs.YtcpajbglcgbolaaGreat.Am
/- Plain law: CheckerShorter. -/
namespace Go.Proofs.YtcpajbglcgbolaaGreat.Am
open Go.RowKit
theorem firstO_none {t : GTask} {c : GCertificate} {n : Nogood} : ∀ (l : List GOp) (j : Int), firstO t c n l j = none ↔ ∀ o ∈ l, openF t c n o = false
  | [], j => ⟨fun _ => (nofun), fun _ => rfl⟩
  | o :: os, j => by
    rw [firstO]
    cases h : openF t c n o with
    | true =>
      rw [if_pos rfl]
      exact ⟨fun e => (by cases e), fun e => by rw [e o (List.mem_cons_self ..)] at h; cases h⟩
    | false =>
      rw [if_neg (by decide), firstO_none os]
      exact ⟨fun e u hu => by rcases List.mem_cons.1 hu with rfl | hu; exact h; exact e u hu, fun e u hu => e u (List.mem_cons_of_mem _ hu)⟩
theorem firstN_nil {t : GTask} {c : GCertificate} : ∀ (l : List Nogood) (i : Int), (firstN t c l i).2.2 = .nil ↔ ∀ n ∈ l, ∀ o ∈ t.Ops, openF t c n o = false
  | [], i => ⟨fun _ => (nofun), fun _ => rfl⟩
  | n :: ns, i => by
    rw [firstN]
    cases h : firstO t c n t.Ops 0 with
    | some k =>
      refine ⟨fun e => (by cases e), fun e => ?_⟩
      rw [(firstO_none t.Ops 0).2 (e n (List.mem_cons_self ..))] at h
      cases h
    | none =>
      have h0 := (firstO_none t.Ops 0).1 h
      simp only
      rw [firstN_nil ns]
      exact ⟨fun e u hu => by rcases List.mem_cons.1 hu with rfl | hu; exact h0; exact e u hu, fun e u hu => e u (List.mem_cons_of_mem _ hu)⟩
theorem refC_nil {t : GTask} {c : GCertificate} : (refC t c).2.2 = .nil ↔ Acc t c := by
  have hstep : (∀ n ∈ c.Nogoods, ∀ o ∈ t.Ops, openF t c n o = false) ↔ ∀ n ∈ c.Nogoods, ∀ o ∈ t.Ops, skipO c n o = false → ∀ s ∈ allF t, inF o n.1 s = true → claimsF c.Nogoods s (distO c n o) = true := by
    constructor
    · intro h n hn o ho hs
      exact (open_not hs).1 (h n hn o ho)
    · intro h n hn o ho
      cases hs : skipO c n o with
      | true => rw [openF, hs]; rfl
      | false => exact (open_not hs).2 (h n hn o ho hs)
  unfold refC
  cases h1 : c.Nogoods.any fun n => holdsF t.Init n.1 with
  | true =>
    rw [if_pos rfl]
    obtain ⟨n, hn, h⟩ := List.any_eq_true.1 h1
    exact ⟨fun e => (by cases e), fun e => by rw [e.init n hn] at h; cases h⟩
  | false =>
    have hi : ∀ n ∈ c.Nogoods, holdsF t.Init n.1 = false := fun n hn => by
      rw [Bool.eq_false_iff]
      intro h
      rw [List.any_eq_true.2 ⟨n, hn, h⟩] at h1
      cases h1
    rw [if_neg (by decide)]
    cases h2 : (c.Bound != 0 && (allF t).any fun s => holdsF s t.Goal && !claimsF c.Nogoods s 0) with
    | true =>
      rw [if_pos rfl]
      rw [Bool.and_eq_true, bne_iff_ne] at h2
      obtain ⟨s, hs, h⟩ := List.any_eq_true.1 h2.2
      rw [Bool.and_eq_true] at h
      exact ⟨fun e => (by cases e), fun e => by rw [e.goal h2.1 s hs h.1] at h; exact absurd h.2 (by decide)⟩
    | false =>
      have hg : c.Bound ≠ 0 → ∀ s ∈ allF t, holdsF s t.Goal = true → claimsF c.Nogoods s 0 = true := fun hb s hs hh => by
        refine Decidable.byContradiction fun hne => ?_
        have : (c.Bound != 0 && (allF t).any fun s => holdsF s t.Goal && !claimsF c.Nogoods s 0) = true := by
          rw [Bool.and_eq_true, bne_iff_ne]
          exact ⟨hb, List.any_eq_true.2 ⟨s, hs, by rw [hh, Bool.eq_false_iff.2 hne]; rfl⟩⟩
        rw [h2] at this
        cases this
      rw [if_neg (by decide), firstN_nil, hstep]
      exact ⟨fun h => ⟨hi, hg, h⟩, fun h => h.step⟩
theorem ver_ok {t : GTask} (h : Gen t) {c : GCertificate} (hf : c.Nogoods.length ≤ 12) : verF t c 1048576 = .nil ↔ CertP t.Vars c ∧ Acc t c := by
  rw [verF, whereF_ok h hf, refF, (good_check t).1 h.good]
  simp only
  cases hp : properF t.Vars c with
  | no e =>
    refine ⟨fun e => (by cases e), fun e => ?_⟩
    rw [(properF_nil t.Vars c).2 e.1] at hp
    cases hp
  | nil =>
    simp only
    rw [refC_nil]
    exact ⟨fun e => ⟨(properF_nil t.Vars c).1 hp, e⟩, fun e => e.2⟩
theorem erM_n' {α : Type} {x : Option α} {k : Int → Option α} : erM .nil x k = x := rfl
def shortC (c : GCertificate) (k : Int) : GCertificate := { Bound := k, Nogoods := c.Nogoods.filter fun n => decide (n.2 < k) }
theorem claims_short {c : GCertificate} {k : Int} {s : List Int} {d : Int} (h : claimsF c.Nogoods s d = true) (d' : Int) (hd : ∀ n ∈ c.Nogoods, n.2 ≤ d → n.2 < k ∧ n.2 ≤ d') : claimsF (shortC c k).Nogoods s d' = true := by
  unfold claimsF at h ⊢
  obtain ⟨n, hn, e⟩ := List.any_eq_true.1 h
  rw [Bool.and_eq_true, decide_eq_true_iff] at e
  obtain ⟨h1, h2⟩ := hd n hn e.1
  exact List.any_eq_true.2 ⟨n, List.mem_filter.2 ⟨hn, decide_eq_true h1⟩, by rw [decide_eq_true h2, e.2]; rfl⟩
theorem short_acc {t : GTask} (hgood : goodF t = true) {c : GCertificate} (hc : CertP t.Vars c) (ha : Acc t c) {k : Int} (h0 : 0 ≤ k) (h1 : k ≤ 100) (h2 : c.Bound < 0 → 1 ≤ k) (h3 : 0 ≤ c.Bound → k ≤ c.Bound) : CertP t.Vars (shortC c k) ∧ Acc t (shortC c k) := by
  have hsub : ∀ n ∈ (shortC c k).Nogoods, n ∈ c.Nogoods ∧ n.2 < k := fun n hn => by
    obtain ⟨a, b⟩ := List.mem_filter.1 hn
    exact ⟨a, of_decide_eq_true b⟩
  refine ⟨⟨by show -1 ≤ k; omega, by show k ≤ _; omega, Nat.le_trans (List.length_filter_le _ _) hc.len, fun n hn => hc.prop n (hsub n hn).1, fun n hn => hc.frm n (hsub n hn).1, fun n hn => hc.d0 n (hsub n hn).1, fun n hn _ => (hsub n hn).2, fun n hn hb => absurd hb (by show ¬ k < 0; omega)⟩, ⟨fun n hn => ha.init n (hsub n hn).1, fun hb s hs hh => ?_, fun n hn o ho hsk s hs hi => ?_⟩⟩
  · have hb' : k ≠ 0 := hb
    refine claims_short (ha.goal (by omega) s hs hh) 0 fun m hm hle => ⟨by omega, hle⟩
  · obtain ⟨hn1, hn2⟩ := hsub n hn
    have hcost := good_cost hgood ho
    have hnd := hc.d0 n hn1
    have hsk' : ¬ (0 ≤ k ∧ k ≤ n.2 + o.Cost) := of_decide_eq_false hsk
    have hdo : distO (shortC c k) n o = n.2 + o.Cost := if_pos h0
    rw [hdo]
    by_cases hb : 0 ≤ c.Bound
    · have h3' := h3 hb
      have hcl := ha.step n hn1 o ho (decide_eq_false (by omega)) s hs hi
      rw [distO, if_pos hb] at hcl
      exact claims_short hcl _ fun m hm hle => ⟨by omega, hle⟩
    · have h2' := h2 (by omega)
      have hcl := ha.step n hn1 o ho (decide_eq_false (by omega)) s hs hi
      rw [distO, if_neg hb] at hcl
      refine claims_short hcl _ fun m hm hle => ?_
      have := hc.d2 m hm (by omega)
      omega
theorem short_loop (t : GTask) (c : GCertificate) (g : Nat) (k : Int) : ∀ (r : List Nogood) (i : Int) (v : List Nogood), v.length + r.length ≤ 1000000 →
    Rg (M_l31_CheckerShorter_L1_B t c g k) (M_l31_CheckerShorter_L1_E t c g k) r i v = M_l31_CheckerShorter_L1_E t c g k (v ++ r.filter fun n => decide (n.2 < k))
  | [], i, v, h => by rw [Rg]; simp
  | n :: r, i, v, h => by
    rw [List.length_cons] at h
    rw [Rg, M_l31_CheckerShorter_L1_B, ixv, sel_dec]
    by_cases hk : n.2 < k
    · rw [if_pos hk, grd_t (by omega), short_loop t c g k r _ _ (by simp; omega), List.filter_cons, if_pos (decide_eq_true hk)]; simp
    · rw [if_neg hk, short_loop t c g k r _ _ (by omega), List.filter_cons, if_neg (by simpa using hk)]
theorem shorter_true (g : Nat) (hg : 70 ≤ g) (t : GTask) (ht : ShT t) (c : GCertificate) (hc : ShC c) (b : Int) : M_l31_CheckerShorter g t c b = some true := by
  have aw := awake_eq g hg
  rw [M_l31_CheckerShorter, aw, gentle_eq t ht, few_eq c hc]
  refine guard3' (fun hge hfe => ?_) rfl
  have h := gentle_gen hge
  have hf : c.Nogoods.length ≤ 12 := by
    unfold fewF at hfe
    simp only [Bool.and_eq_true, decide_eq_true_iff] at hfe
    exact hfe.2
  rw [osum_inl, verify_eq t ht c hc _ g hg, ob1_some]
  cases hv : verF t c 1048576 with
  | no e => rfl
  | nil =>
    obtain ⟨hcp, ha⟩ := (ver_ok h hf).1 hv
    have hfin : ∀ k : Int, 0 ≤ k → k ≤ 100 → (c.Bound < 0 → 1 ≤ k) → (0 ≤ c.Bound → k ≤ c.Bound) → M_l31_CheckerShorter_L1 t c g k ((((c.Nogoods.map cN).length : Int)).toNat + 1) 0 [] = some true := fun k h0 h1 h2 h3 => by
      have hlen : (c.Nogoods.filter fun n => decide (n.2 < k)).length ≤ 12 := Nat.le_trans (List.length_filter_le _ _) hf
      have hs : ShC (shortC c k) := ⟨by show _ ≤ _; unfold shortC; simp only; omega, fun n hn => hc.each n (List.mem_filter.1 hn).1⟩
      have hd := (ver_ok h (c := shortC c k) hlen).2 (short_acc h.good hcp ha h0 h1 h2 h3)
      have hver := verify_eq t ht (shortC c k) hs 1048576 g hg
      rw [hd] at hver
      rw [M_l31_CheckerShorter_L1_eq t c g k [] hc.list.lt, short_loop t c g k _ _ _ (by simp; omega), List.nil_append, M_l31_CheckerShorter_L1_E, grd_t (by omega)]
      unfold shortC at hver
      rw [hver]
      rfl
    rw [erM_n', M_b_Clip, ob1_some, sel_dec]
    by_cases hb : c.Bound < 0
    · rw [if_pos hb, ob1_some]
      exact hfin _ (by omega) (by omega) (fun _ => by omega) (fun h => absurd h (by omega))
    · rw [if_neg hb, ob1_some]
      exact hfin _ (by omega) (by omega) (fun h => absurd h hb) (fun _ => by omega)
end Go.Proofs.YtcpajbglcgbolaaGreat.Am
/- Opening arguments: slices of numbers, of facts, of nogoods, a certificate. -/
namespace Go.Proofs.YtcpajbglcgbolaaGreat
open Go.RowKit Go.ChangeShapes Go.WideShapes Go.Deep Go.Joins

def I64 (x : Int) : Prop := -9223372036854775808 ≤ x ∧ x ≤ 9223372036854775807
theorem I64.of {x : Int} (h : (Lit.int .i64 x).wf = true) : I64 x := by
  have := bounds_i64 h
  exact this

section
variable {H : Type} {enc : TypeId × Value → H} {P : Program} {w : World} {base : Nat} {spare : Nat → Bool} {held : Bool}

/-- within the form's reach -/
def Sized (P : Program) (t : TypeId) (d : DataW H) : Prop := ∀ n ∈ d.weights P t, n ≤ reachBytes
theorem sized_arg {ts : List TypeId} {ds : List (DataW H)} (h : (DataW.weightsEach P ts ds).all (· ≤ reachBytes) = true) {j : Nat} {t : TypeId} {d : DataW H} (ht : ts[j]? = some t) (hd : ds[j]? = some d) : Sized P t d :=
  fun n hn => of_decide_eq_true (List.all_eq_true.1 h n (DataW.weights_mem_each ht hd n hn))
theorem sized_field {t : TypeId} {fs : Array Field} {parts : List (DataW H)} (h : Sized P t (.agg parts)) (hu : P.underlying t = some (.struct fs)) {j : Nat} {f : Field} {d : DataW H} (hf : fs[j]? = some f) (hd : parts[j]? = some d) : Sized P f.type d :=
  fun n hn => h n (by
    simp only [DataW.weights, hu]
    exact DataW.weights_mem_each (j := j) (by simp [List.getElem?_map, hf]) hd n hn)
theorem weightsAll_mem {e : TypeId} : ∀ {l : List (DataW H)} {d : DataW H}, d ∈ l → ∀ n ∈ d.weights P e, n ∈ DataW.weightsAll P e l
  | x :: l, d, hd, n, hn => by
    simp only [DataW.weightsAll, List.mem_append]
    rcases List.mem_cons.1 hd with rfl | h
    · exact Or.inl hn
    · exact Or.inr (weightsAll_mem h n hn)
theorem sized_elem {t e : TypeId} {elems sp : List (DataW H)} (h : Sized P t (.slice elems sp)) (hu : P.underlying t = some (.slice e)) {d : DataW H} (hd : d ∈ elems) : Sized P e d :=
  fun n hn => h n (by
    simp only [DataW.weights, hu, List.mem_cons, List.mem_append]
    exact Or.inr (Or.inl (weightsAll_mem hd n hn)))
theorem sized_len {t e : TypeId} {elems sp : List (DataW H)} (h : Sized P t (.slice elems sp)) (hu : P.underlying t = some (.slice e)) : elems.length * P.bytesOf e ≤ 140737488355328 := by
  have h1 := h ((elems.length + sp.length) * P.bytesOf e) (by simp [DataW.weights, hu])
  have h2 : elems.length * P.bytesOf e ≤ (elems.length + sp.length) * P.bytesOf e := Nat.mul_le_mul_right _ (by omega)
  have h3 : reachBytes ≤ 140737488355328 := by decide
  omega

end

theorem spot_of_cell {w : World} {p : Addr} {v : Value} (h : w.cell? p = some v) : p.spot = none := by
  unfold World.cell? at h
  split at h
  · split at h
    · cases h
    · rename_i hs; simpa using hs
  · cases h
theorem addr_of_cell {w : World} {a : Addr} {k : Nat} {v : Value} (h0 : ∃ u, w.cell? (a.add 0) = some u) (h : w.cell? (a.add k) = some v) : a = ⟨a.block, a.off, none⟩ ∧ w.cell? ⟨a.block, a.off + k, none⟩ = some v := by
  obtain ⟨u, hu⟩ := h0
  have hs := spot_of_cell hu
  obtain ⟨b, off, sp⟩ := a
  simp [Addr.add] at hs
  subst hs
  refine ⟨rfl, ?_⟩
  rw [← h]
  congr 1
  unfold Addr.add
  split
  · subst k; rfl
  · rfl

theorem list_of {α : Type} (n : Nat) (R : Nat → α → Prop) (h : ∀ i, i < n → ∃ x, R i x) : ∃ l : List α, l.length = n ∧ ∀ k x, l[k]? = some x → R k x := by
  induction n with
  | zero => exact ⟨[], rfl, fun k x hx => by simp at hx⟩
  | succ n ih =>
    obtain ⟨l, hl, hr⟩ := ih (fun i hi => h i (by omega))
    obtain ⟨x, hx⟩ := h n (by omega)
    refine ⟨l ++ [x], by simp [hl], fun k y hy => ?_⟩
    by_cases hk : k < n
    · rw [List.getElem?_append_left (by omega)] at hy
      exact hr k y hy
    · rw [List.getElem?_append_right (by omega)] at hy
      have hk' : k - l.length = 0 := by
        have := (List.getElem?_eq_some_iff.1 hy).1
        simp at this
        omega
      rw [hk'] at hy
      simp at hy
      subst hy
      obtain rfl : k = n := by omega
      exact hx

variable {H : Type} {enc : TypeId × Value → H} {w : World} {base : Nat} {spare : Nat → Bool} {held : Bool}
end Go.Proofs.YtcpajbglcgbolaaGreat
/- Opening arguments for the abstract machine: readers that compose. -/
namespace Go.Proofs.YtcpajbglcgbolaaGreat.Am
open Go.RowKit Go.ChangeShapes Go.WideShapes Go.Deep Go.Joins

/-- nothing is owned at the start -/
abbrev mZ : MM := mO (fun _ => False)
theorem noZ (b : Nat) : ¬ Owned nov mZ b := fun h => owned_nov.1 h

section
variable {H : Type} {enc : TypeId × Value → H} {P : Program} {w : World} {base : Nat} {spare : Nat → Bool} {held : Bool}
/-- cells that stand for the values -/
def CellsRv (w : World) (es : List AV) (cs : List Value) : Prop := es.length = cs.length ∧ (∀ (j : Nat) (y : AV) (u : Value), es[j]? = some y → cs[j]? = some u → RV w nov mZ y u ∧ u.oneCell' = true) ∧ ∀ y ∈ es, Fr y
/-- data of type t read as an α -/
def Opens (enc : TypeId × Value → H) (P : Program) (w : World) (base : Nat) (spare : Nat → Bool) (held : Bool) (t : TypeId) {α : Type} (en : α → List AV) (R : α → Prop) : Prop :=
  ∀ (fuel : Nat) (cs : List Value) (x : DataW H × List MemPlace), DataW.trod enc P w base spare held fuel t cs = some x → Sized P t x.1 → ∃ a, R a ∧ CellsRv w (en a) cs

theorem cells_one1 {y : AV} {u : Value} (h : RV w nov mZ y u) (h1 : u.oneCell' = true) (hf : Fr y) : CellsRv w [y] [u] := by
  refine ⟨rfl, fun j z v hz hv => ?_, fun z hz => by simp at hz; subst hz; exact hf⟩
  cases j with
  | zero => simp at hz hv; subst hz hv; exact ⟨h, h1⟩
  | succ j => simp at hz
theorem opens_int {t : TypeId} {k : IntKind} (ht : P.underlying t = some (.int k)) : Opens enc P w base spare held t (fun z : Int => [.c (.int k z)]) (fun z => (Lit.int k z).wf = true) := by
  intro fuel cs x h _
  obtain ⟨z, rfl, _, wz⟩ := DataW.trod_int ht h
  exact ⟨z, wz, cells_one1 (.c _) rfl (.c _)⟩
theorem opens_slice {t e : TypeId} {α : Type} {en : α → List AV} {R : α → Prop} {sz by_ : Nat} (ht : P.underlying t = some (.slice e)) (hc : P.cellsOf e = sz) (hb : P.bytesOf e = by_) (hby : 0 < by_) (hsz : 0 < sz) (he : Opens enc P w base spare held e en R) :
    Opens enc P w base spare held t (fun l : List α => [.sl sz (l.map en)]) (fun l => l.length * by_ ≤ 140737488355328 ∧ ∀ x ∈ l, R x) := by
  intro fuel cs x h hs
  rcases open_slice ht h with ⟨rfl, _⟩ | ⟨a, len, cap, m, n, D, Pl, rfl, _, hl, hm, hmm, rfl, hi⟩
  · refine ⟨[], ⟨by simp, by simp⟩, cells_one1 ?_ rfl (.sl (fun e he => by cases he))⟩
    exact RV.sl (l := []) (b := 0) (off := 0) (f := fun _ _ => undef) (fun h => absurd rfl h) (Nat.zero_le _) (by simp) (fun k e h => by simp at h) (fun k j e x h => by simp at h) (fun k j e x h => by simp at h) (fun e he => by cases he)
  · have hlen := sized_len hs ht
    rw [hb] at hlen
    simp only [List.length_map, List.length_range] at hlen
    have hml : len ≤ m := by rw [hmm]; split <;> omega
    have hcell : ∀ i, i < len → ∃ z : α, R z ∧ ∃ cs', CellsRv w (en z) cs' ∧ cs'.length = sz ∧ ∀ j, j < sz → w.cell? (a.add (i * sz + j)) = cs'[j]? := by
      intro i hi'
      obtain ⟨cs', hcc, ht'⟩ := hi i (by omega)
      rw [hc] at hcc
      obtain ⟨z, hz, hcr⟩ := he n cs' _ ht' (sized_elem hs ht (List.mem_map.2 ⟨i, by simpa using hi', rfl⟩))
      obtain ⟨_, hcl', hat⟩ := World.cells?_some hcc
      exact ⟨z, hz, cs', hcr, hcl', fun j hj => by rw [← hat j hj, Go.Deep.add_add]⟩
    obtain ⟨l, hl', hat⟩ := list_of len _ hcell
    have hR : ∀ x ∈ l, R x := fun x hx => by
      obtain ⟨k, hk⟩ := List.getElem?_of_mem hx
      exact (hat k x hk).1
    have hfr : FrL (l.map en) := by
      intro e he
      obtain ⟨x, hx, rfl⟩ := List.mem_map.1 he
      obtain ⟨k, hk⟩ := List.getElem?_of_mem hx
      obtain ⟨_, cs', hcr, _⟩ := hat k x hk
      exact hcr.2.2
    refine ⟨l, ⟨by rw [hl']; exact hlen, hR⟩, cells_one1 ?_ rfl (.sl hfr)⟩
    have key : ∀ (k j : Nat) (e : List AV) (y : AV), (l.map en)[k]? = some e → e[j]? = some y → e.length = sz ∧ ∃ u, w.cell? ⟨a.block, a.off + (k * sz + j), none⟩ = some u ∧ u.oneCell' = true ∧ RV w nov mZ y u ∧ a = ⟨a.block, a.off, none⟩ ∧ a.block < w.heap.size := by
      intro k j e y hk hj
      rw [List.getElem?_map] at hk
      cases hx : l[k]? with
      | none => rw [hx] at hk; cases hk
      | some z =>
        rw [hx] at hk
        simp at hk
        subst hk
        obtain ⟨_, cs', ⟨c1, c2, _⟩, c4, c5⟩ := hat k z hx
        have hjl : j < sz := by rw [← c4, ← c1]; exact (List.getElem?_eq_some_iff.1 hj).1
        have hcj := c5 j hjl
        have hget : cs'[j]? = some (cs'[j]'(by omega)) := List.getElem?_eq_getElem _
        rw [hget] at hcj
        obtain ⟨r1, r2⟩ := c2 j y _ hj hget
        have h0 : 0 < len := by have := (List.getElem?_eq_some_iff.1 hx).1; omega
        obtain ⟨_, _, cs0, ⟨_, _, _⟩, d4, d5⟩ := hcell 0 h0
        have hz0 := d5 0 hsz
        rw [List.getElem?_eq_getElem (by omega)] at hz0
        obtain ⟨e1, e2⟩ := addr_of_cell ⟨_, by simpa using hz0⟩ hcj
        exact ⟨by rw [c1, c4], _, e2, r2, r1, e1, lt_of_cell (p := ⟨a.block, a.off + (k * sz + j), none⟩) e2⟩
    have hlen2 : (l.map en).length = len := by simp [hl']
    have := RV.sl (w := w) (vs := nov) (m := mZ) (sz := sz) (l := l.map en) (A := some a) (cap := cap) (b := a.block) (off := a.off) (f := fun k j => (w.cell? ⟨a.block, a.off + (k * sz + j), none⟩).getD undef)
      (fun hne => ?_) (by omega) (by rw [hlen2]; exact Nat.le_trans (Nat.le_mul_of_pos_right _ hby) hlen) (fun k e hk => ?_) (fun k j e y hk hj => ?_) (fun k j e y hk hj => ?_) hfr
    · rw [hlen2] at this
      exact this
    · have h0 : 0 < (l.map en).length := List.length_pos_iff.2 hne
      have hk := List.getElem?_eq_getElem h0
      obtain ⟨x0, hx0, hx0'⟩ : ∃ x0, l[0]? = some x0 ∧ (l.map en)[0] = en x0 := by
        have h1 : 0 < l.length := by simpa using h0
        exact ⟨l[0], List.getElem?_eq_getElem h1, by simp⟩
      obtain ⟨_, cs', ⟨c1, _, _⟩, c4, _⟩ := hat 0 x0 hx0
      have hel : 0 < ((l.map en)[0]).length := by rw [hx0', c1, c4]; exact hsz
      obtain ⟨_, _, _, _, _, q1, q2⟩ := key 0 0 _ _ hk (List.getElem?_eq_getElem hel)
      exact ⟨by rw [← q1], noZ _, q2⟩
    · rw [List.getElem?_map] at hk
      cases hx : l[k]? with
      | none => rw [hx] at hk; cases hk
      | some z =>
        rw [hx] at hk
        simp at hk
        subst hk
        obtain ⟨_, cs', ⟨c1, _, _⟩, c4, _⟩ := hat k z hx
        rw [c1, c4]
    · obtain ⟨_, u, q1, q2, _⟩ := key k j e y hk hj
      rw [q1]
      exact ⟨rfl, q2⟩
    · obtain ⟨_, u, q1, _, q3, _⟩ := key k j e y hk hj
      rw [q1]
      exact q3

/-- fields from one on -/
def OpensF (enc : TypeId × Value → H) (P : Program) (w : World) (base : Nat) (spare : Nat → Bool) (held : Bool) (fs : List Field) (off tot : Nat) {α : Type} (en : α → List AV) (R : α → Prop) : Prop :=
  ∀ (fuel : Nat) (cs : List Value) (xs : List (DataW H × List MemPlace)), cs.length = tot → xs.length = fs.length → (∀ (i : Nat) (f : Field), fs[i]? = some f → DataW.trod enc P w base spare held fuel f.type ((cs.drop f.offset).take (P.cellsOf f.type)) = xs[i]?) →
    (∀ (i : Nat) (f : Field) (x : DataW H × List MemPlace), fs[i]? = some f → xs[i]? = some x → Sized P f.type x.1) → ∃ a, R a ∧ CellsRv w (en a) (cs.drop off)
theorem cells_append {a b : List AV} {xs ys : List Value} (h1 : CellsRv w a xs) (h2 : CellsRv w b ys) : CellsRv w (a ++ b) (xs ++ ys) := by
  refine ⟨by rw [List.length_append, List.length_append, h1.1, h2.1], fun j y u hy hu => ?_, fun y hy => ?_⟩
  · rcases Nat.lt_or_ge j a.length with hlt | hge
    · rw [List.getElem?_append_left hlt] at hy
      rw [List.getElem?_append_left (by rw [← h1.1]; exact hlt)] at hu
      exact h1.2.1 j y u hy hu
    · rw [List.getElem?_append_right hge] at hy
      rw [List.getElem?_append_right (by rw [← h1.1]; exact hge)] at hu
      rw [h1.1] at hy
      exact h2.2.1 _ y u hy hu
  · rcases List.mem_append.1 hy with h | h
    · exact h1.2.2 y h
    · exact h2.2.2 y h
theorem opensF_last {f : Field} {off tot : Nat} {α : Type} {en : α → List AV} {R : α → Prop} (ho : f.offset = off) (htot : off + P.cellsOf f.type = tot) (h : Opens enc P w base spare held f.type en R) : OpensF enc P w base spare held [f] off tot en R := by
  intro fuel cs xs hcl hx ht hs
  obtain ⟨x, rfl⟩ := List.length_eq_one_iff.1 hx
  have h1 := ht 0 f rfl
  obtain ⟨a, ha, hc⟩ := h fuel _ x h1 (hs 0 f x rfl rfl)
  refine ⟨a, ha, ?_⟩
  rw [ho, List.take_of_length_le (by simp; omega)] at hc
  exact hc
theorem opensF_cons {f : Field} {fs : List Field} {off off' tot : Nat} {α β : Type} {en : α → List AV} {R : α → Prop} {en' : β → List AV} {R' : β → Prop} (ho : f.offset = off) (hoff : off + P.cellsOf f.type = off') (h : Opens enc P w base spare held f.type en R) (h' : OpensF enc P w base spare held fs off' tot en' R') :
    OpensF enc P w base spare held (f :: fs) off tot (fun p : α × β => en p.1 ++ en' p.2) (fun p => R p.1 ∧ R' p.2) := by
  intro fuel cs xs hcl hx ht hs
  cases xs with
  | nil => simp at hx
  | cons x xs =>
    obtain ⟨a, ha, hc⟩ := h fuel _ x (ht 0 f rfl) (hs 0 f x rfl rfl)
    obtain ⟨b, hb, hc'⟩ := h' fuel cs xs hcl (by simpa using hx) (fun i g hg => by simpa using ht (i + 1) g (by simpa using hg)) (fun i g y hg hy => hs (i + 1) g y (by simpa using hg) (by simpa using hy))
    refine ⟨(a, b), ⟨ha, hb⟩, ?_⟩
    rw [ho] at hc
    have : cs.drop off = (cs.drop off).take (P.cellsOf f.type) ++ cs.drop off' := by
      rw [← hoff, ← List.drop_drop, List.take_append_drop]
    rw [this]
    exact cells_append hc hc'
theorem opens_struct {t : TypeId} {fs : Array Field} {α : Type} {en : α → List AV} {R : α → Prop} (ht : P.underlying t = some (.struct fs)) (h : OpensF enc P w base spare held fs.toList 0 (P.cellsOf t) en R) : Opens enc P w base spare held t en R := by
  intro fuel cs x hx hs
  obtain ⟨xs, n, _, rfl, hcl, hxl, hf⟩ := DataW.trod_struct ht hx
  obtain ⟨a, ha, hc⟩ := h n cs xs hcl (by simpa using hxl) (fun i f hi => hf i f (by simpa using hi)) (fun i f y hi hy => sized_field hs ht (j := i) (by simpa using hi) (by simp [List.getElem?_map, hy]))
  exact ⟨a, ha, by simpa using hc⟩

/-- a struct that came in -/
theorem agg_rv {es : List AV} {us : Array Value} (h : CellsRv w es us.toList) : RV w nov mZ (.agg es) (.agg us) :=
  .agg (by rw [h.1]; simp) (fun j y u hy hu => (h.2.1 j y u hy (by simpa using hu)).1)
end
end Go.Proofs.YtcpajbglcgbolaaGreat.Am
/- From a walk to a law's row: the arguments read behind the call as before, the result is true. -/
namespace Go.Proofs.YtcpajbglcgbolaaGreat
open Go.RowKit Go.WideShapes Go.ChangeShapes Go.ChangeAt
section
variable {H : Type} {enc : TypeId × Value → H} {P : Program}
theorem post_of_below {f : Func} {s : ChangeSpec} {apart fresh handsOn again : Bool} {W W' : World} {args : Array Value} {v : Value} {ds gs : List (DataW H)} {before pa pv : List MemPlace}
    (hW : DataW.Whole enc P f.params.toList s.vars apart W args.toList ds gs before)
    (hres : ∀ (b : Nat) (sp : Nat → Bool) (hd : Bool), DataW.TrodAll enc P W' b sp hd f.resultTypes.toList (v.resultList f.resultTypes.size) (s.fn H (ds ++ gs)).results [])
    (hargs : ∀ sp : Nat → Bool, (∀ p ∈ before, sp p.block = true) → DataW.TrodAll enc P W' 0 sp true f.params.toList args.toList (s.fn H (ds ++ gs)).args pa)
    (hvars : ∀ sp : Nat → Bool, (∀ p ∈ before, sp p.block = true) → DataW.TrodVars enc P W' sp s.vars (s.fn H (ds ++ gs)).vars pv)
    (hps : before = pa ++ pv) (hb : Below W.heap.size W W')
    (hok : ∀ (j : Nat) (t : TypeId) (r : Value), f.resultTypes[j]? = some t → (v.resultList f.resultTypes.size)[j]? = some r → Value.okWide P W' .any 0 t r) :
    s.post enc P f apart fresh handsOn again W args v W' := by
  have hlt : ∀ p ∈ before, p.block < W.heap.size := fun p hp => hW.lt p hp
  have hold : ∀ p ∈ before, (fun b => decide (b < W.heap.size)) p.block = true := fun p hp => by simpa using hlt p hp
  refine ⟨ds, gs, before, [], pa, pv, hW, hres _ _ _, hargs _ hold, hvars _ hold, World.keptBut_mono (fun p hp => ⟨hp, ?_⟩) (hb.frame (· ∈ before)), fun _ => ?_⟩
  · rw [hps, List.mem_append] at hp
    exact Or.inr hp
  · obtain ⟨_, _, _, _, _, hz, hn⟩ := hW
    refine ⟨hok, _, _, ([] ++ pa) ++ pv, ⟨[] ++ pa, pv, trodAll_append (hargs _ (fun _ _ => rfl)) (hres _ _ _), hvars _ (fun _ _ => rfl), rfl, ?_, ?_⟩, ?_⟩
    · intro b off hp
      have hin : MemPlace.cell b off ∈ before := by rw [hps]; simpa using hp
      rw [hb.frozen (hlt _ hin)]
      exact hz b off hin
    · intro ha
      have := hn ha
      rw [hps] at this
      simpa using this
    · intro p hp _
      rw [hps]
      simpa using hp

theorem trodAll_keep (hl : laidOutB P = true) {W W' : World} (hb : Below W.heap.size W W') (sp : Nat → Bool) (ts : List TypeId) : ∀ (vs : List Value) (ds : List (DataW H)) (ps : List MemPlace), (∀ t ∈ ts, P.readableRec t = true ∧ t < P.types.size) →
    DataW.TrodAll enc P W 0 (fun _ => true) true ts vs ds ps → (∀ x ∈ ps, x.block < W.heap.size) → (∀ x ∈ ps, sp x.block = true) → DataW.TrodAll enc P W' 0 sp true ts vs ds ps := by
  induction ts with
  | nil =>
    intro vs ds ps _ h _ _
    obtain ⟨rfl, rfl, rfl⟩ := trodAll_nil h
    exact trodAll_mk0
  | cons t ts ih =>
    intro vs ds ps hts h hlt hsp
    obtain ⟨v0, vs0, d0, ds0, p0, q0, rfl, rfl, rfl, h0, r0⟩ := trodAll_cons h
    obtain ⟨hr, hrow⟩ := hts t (by simp)
    exact trodAll_cons_mk (WideElems.Trod_stays hl hr hrow h0 (fun x hx => hb.same (hlt x (by simp [hx]))) (fun x hx => hsp x (by simp [hx])))
      (ih _ _ _ (fun t ht => hts t (by simp [ht])) r0 (fun x hx => hlt x (by simp [hx])) (fun x hx => hsp x (by simp [hx])))

/-- A LAW: it returned true, nothing that was there has turned. -/
theorem law_post (hl : laidOutB P = true) {f : Func} {s : ChangeSpec} {T : TypeId} {W W' : World} {args : Array Value} {ds : List (DataW H)} {before : List MemPlace}
    (hvars : s.vars = []) (hrt : f.resultTypes = #[T]) (hT : P.underlying T = some .bool) (hts : f.params.toList.all (fun t => P.readableRec t && decide (t < P.types.size)) = true)
    (hW : DataW.Whole enc P f.params.toList s.vars false W args.toList ds [] before) (hA : DataW.TrodAll enc P W 0 (fun _ => true) true f.params.toList args.toList ds before)
    (e1 : (s.fn H (ds ++ [])).results = [.lit (.bool true)]) (e2 : (s.fn H (ds ++ [])).args = ds) (e3 : (s.fn H (ds ++ [])).vars = []) (hb : Below W.heap.size W W') :
    s.post enc P f false true false false W args (.bool true) W' := by
  have hlt : ∀ x ∈ before, x.block < W.heap.size := fun x hx => hW.lt x hx
  refine post_of_below (pa := before) (pv := []) hW ?_ ?_ ?_ (by simp) hb ?_
  · intro b sp hd
    rw [e1, hrt]
    exact trodAll_cons_mk (shut_bool hT true) trodAll_mk0
  · intro sp hsp
    rw [e2]
    exact trodAll_keep hl hb sp _ _ _ _ (fun t ht => by simpa using List.all_eq_true.1 hts t ht) hA hlt hsp
  · intro sp hsp
    rw [e3, hvars]
    rfl
  · exact ok_one hrt rfl (okWide_bool_mk hT true)
end
end Go.Proofs.YtcpajbglcgbolaaGreat
/- Readers of the arguments of the laws about tasks. -/
namespace Go.Proofs.YtcpajbglcgbolaaGreat.Am
open Go.RowKit Go.ChangeShapes Go.WideShapes Go.Deep Go.Joins
section
variable {H : Type} {enc : TypeId × Value → H} {w : World} {base : Nat} {spare : Nat → Bool} {held : Bool}
theorem opens_conv {P : Program} {t : TypeId} {α β : Type} {en : α → List AV} {en2 : β → List AV} {R : α → Prop} {R2 : β → Prop} (f : α → β) (h : Opens enc P w base spare held t en R) (he : ∀ a, en2 (f a) = en a) (hR : ∀ a, R a → R2 (f a)) : Opens enc P w base spare held t en2 R2 := by
  intro fuel cs x hx hs
  obtain ⟨a, ha, hc⟩ := h fuel cs x hx hs
  exact ⟨f a, hR a ha, by rw [he]; exact hc⟩
theorem opens_str2 {P : Program} {t : TypeId} (ht : P.underlying t = some .string) : Opens enc P w base spare held t (fun s : ByteArray => [.c (.string s)]) (fun s => s.size ≤ 140737488355328) := by
  intro fuel cs x h hsz
  obtain ⟨s, rfl, rfl, -⟩ := DataW.trod_string ht h
  refine ⟨s, ?_, cells_one1 (.c _) rfl (.c _)⟩
  have h1 : s.data.toList.length ≤ 140737488355328 := Nat.le_trans (hsz s.data.toList.length (List.mem_singleton.2 rfl)) (by decide)
  rw [Array.length_toList] at h1
  exact h1
abbrev I64F (p : Fact) : Prop := (Lit.int .i64 p.1).wf = true ∧ (Lit.int .i64 p.2).wf = true
abbrev FactsR (l : List Fact) : Prop := l.length * 16 ≤ 140737488355328 ∧ ∀ p ∈ l, I64F p
abbrev EffR (e : GEffect) : Prop := FactsR e.When
abbrev OpR (o : GOp) : Prop := o.Name.size ≤ 140737488355328 ∧ FactsR o.Pre ∧ o.Effs.length * 40 ≤ 140737488355328 ∧ ∀ e ∈ o.Effs, EffR e
abbrev IntsR (l : List Int) : Prop := l.length * 8 ≤ 140737488355328 ∧ ∀ z ∈ l, (Lit.int .i64 z).wf = true
abbrev TaskR (t : GTask) : Prop := IntsR t.Vars ∧ IntsR t.Init ∧ FactsR t.Goal ∧ t.Ops.length * 72 ≤ 140737488355328 ∧ ∀ o ∈ t.Ops, OpR o
set_option maxRecDepth 100000 in
theorem oFact : Opens enc Tryz.prog w base spare held 63 cF I64F :=
  opens_struct Tryz.underlying63 (opensF_cons (off' := 1) rfl (by kernel_rfl) (opens_int Tryz.underlying3) (opensF_last rfl (by kernel_rfl) (opens_int Tryz.underlying3)))
set_option maxRecDepth 100000 in
theorem oFacts : Opens enc Tryz.prog w base spare held 23 (fun l : List Fact => [.sl 2 (l.map cF)]) FactsR :=
  opens_slice Tryz.underlying23 (by kernel_rfl) (by kernel_rfl) (by decide) (by decide) oFact
set_option maxRecDepth 100000 in
theorem oInts : Opens enc Tryz.prog w base spare held 22 (fun l : List Int => [.sl 1 (l.map cI)]) IntsR :=
  opens_slice Tryz.underlying22 (by kernel_rfl) (by kernel_rfl) (by decide) (by decide) (opens_int Tryz.underlying3)
set_option maxRecDepth 100000 in
theorem oEff : Opens enc Tryz.prog w base spare held 61 cGEffect EffR :=
  opens_conv (fun p : List Fact × (Int × Int) => { When := p.1, Var := p.2.1, Val := p.2.2 : GEffect })
    (opens_struct Tryz.underlying61 (opensF_cons (off' := 1) (en := fun l : List Fact => [AV.sl 2 (l.map cF)]) (R := FactsR) (en' := fun z : Int × Int => [AV.c (.int .i64 z.1)] ++ [AV.c (.int .i64 z.2)]) (R' := fun z : Int × Int => (Lit.int .i64 z.1).wf = true ∧ (Lit.int .i64 z.2).wf = true) rfl (by kernel_rfl) oFacts
      (opensF_cons (off' := 2) (en := fun z : Int => [AV.c (.int .i64 z)]) (R := fun z : Int => (Lit.int .i64 z).wf = true) (en' := fun z : Int => [AV.c (.int .i64 z)]) (R' := fun z : Int => (Lit.int .i64 z).wf = true) rfl (by kernel_rfl) (opens_int Tryz.underlying3) (opensF_last rfl (by kernel_rfl) (opens_int Tryz.underlying3)))))
    (fun _ => rfl) (fun _ h => h.1)
set_option maxRecDepth 100000 in
theorem oOp : Opens enc Tryz.prog w base spare held 59 cGOp OpR :=
  opens_conv (fun p : ByteArray × (Int × (List Fact × List GEffect)) => { Name := p.1, Cost := p.2.1, Pre := p.2.2.1, Effs := p.2.2.2 : GOp })
    (opens_struct Tryz.underlying59 (opensF_cons (off' := 1) (en := fun s : ByteArray => [AV.c (.string s)]) (R := fun s => s.size ≤ 140737488355328) (en' := fun p : Int × (List Fact × List GEffect) => [AV.c (.int .i64 p.1)] ++ ([AV.sl 2 (p.2.1.map cF)] ++ [AV.sl 3 (p.2.2.map cGEffect)])) (R' := fun p : Int × (List Fact × List GEffect) => (Lit.int .i64 p.1).wf = true ∧ (FactsR p.2.1 ∧ (p.2.2.length * 40 ≤ 140737488355328 ∧ ∀ e ∈ p.2.2, EffR e))) rfl (by kernel_rfl) (opens_str2 Tryz.underlying9)
      (opensF_cons (off' := 2) (en := fun z : Int => [AV.c (.int .i64 z)]) (R := fun z : Int => (Lit.int .i64 z).wf = true) (en' := fun p : List Fact × List GEffect => [AV.sl 2 (p.1.map cF)] ++ [AV.sl 3 (p.2.map cGEffect)]) (R' := fun p : List Fact × List GEffect => FactsR p.1 ∧ (p.2.length * 40 ≤ 140737488355328 ∧ ∀ e ∈ p.2, EffR e)) rfl (by kernel_rfl) (opens_int Tryz.underlying3)
        (opensF_cons (off' := 3) (en := fun l : List Fact => [AV.sl 2 (l.map cF)]) (R := FactsR) (en' := fun l : List GEffect => [AV.sl 3 (l.map cGEffect)]) (R' := fun l : List GEffect => l.length * 40 ≤ 140737488355328 ∧ ∀ e ∈ l, EffR e) rfl (by kernel_rfl) oFacts
          (opensF_last rfl (by kernel_rfl) (opens_slice Tryz.underlying57 (by kernel_rfl) (by kernel_rfl) (by decide) (by decide) oEff))))))
    (fun _ => rfl) (fun _ h => ⟨h.1, h.2.2.1, h.2.2.2⟩)
set_option maxRecDepth 100000 in
theorem oTask : Opens enc Tryz.prog w base spare held 26 cGTask TaskR :=
  opens_conv (fun p : List Int × (List Int × (List Fact × List GOp)) => { Vars := p.1, Init := p.2.1, Goal := p.2.2.1, Ops := p.2.2.2 : GTask })
    (opens_struct Tryz.underlying26 (opensF_cons (off' := 1) (en := fun l : List Int => [AV.sl 1 (l.map cI)]) (R := IntsR) (en' := fun p : List Int × (List Fact × List GOp) => [AV.sl 1 (p.1.map cI)] ++ ([AV.sl 2 (p.2.1.map cF)] ++ [AV.sl 4 (p.2.2.map cGOp)])) (R' := fun p : List Int × (List Fact × List GOp) => IntsR p.1 ∧ (FactsR p.2.1 ∧ (p.2.2.length * 72 ≤ 140737488355328 ∧ ∀ o ∈ p.2.2, OpR o))) rfl (by kernel_rfl) oInts
      (opensF_cons (off' := 2) (en := fun l : List Int => [AV.sl 1 (l.map cI)]) (R := IntsR) (en' := fun p : List Fact × List GOp => [AV.sl 2 (p.1.map cF)] ++ [AV.sl 4 (p.2.map cGOp)]) (R' := fun p : List Fact × List GOp => FactsR p.1 ∧ (p.2.length * 72 ≤ 140737488355328 ∧ ∀ o ∈ p.2, OpR o)) rfl (by kernel_rfl) oInts
        (opensF_cons (off' := 3) (en := fun l : List Fact => [AV.sl 2 (l.map cF)]) (R := FactsR) (en' := fun l : List GOp => [AV.sl 4 (l.map cGOp)]) (R' := fun l : List GOp => l.length * 72 ≤ 140737488355328 ∧ ∀ o ∈ l, OpR o) rfl (by kernel_rfl) oFacts
          (opensF_last rfl (by kernel_rfl) (opens_slice Tryz.underlying24 (by kernel_rfl) (by kernel_rfl) (by decide) (by decide) oOp))))))
    (fun _ => rfl) (fun _ h => h)
/-- a struct argument -/
theorem arg_struct {P : Program} {t : TypeId} {fs : Array Field} {α : Type} {en : α → List AV} {R : α → Prop} {r : Reach} {b0 : Nat} {v : Value} {d : DataW H} {p : List MemPlace} (ht : P.underlying t = some (.struct fs)) (hv : Value.okWide P w r b0 t v) (ho : Opens enc P w base spare held t en R) (h : DataW.Trod enc P w base spare held t v d p) (hs : Sized P t d) :
    ∃ a, R a ∧ RV w nov mZ (.agg (en a)) v := by
  obtain ⟨cs, rfl, hsz⟩ := okWide_struct ht hv
  obtain ⟨fuel, hf⟩ := h
  obtain ⟨a, ha, hc⟩ := ho fuel _ _ hf hs
  exact ⟨a, ha, agg_rv hc⟩
end
theorem TaskR.sh {t : GTask} (h : TaskR t) : ShT t := by
  obtain ⟨⟨h1, -⟩, ⟨h2, -⟩, ⟨h3, -⟩, h4, h5⟩ := h
  refine ⟨?_, ?_, ?_, ?_, fun o ho => ?_⟩
  · show _ ≤ _; omega
  · show _ ≤ _; omega
  · show _ ≤ _; omega
  · show _ ≤ _; omega
  · obtain ⟨g1, ⟨g2, -⟩, g3, g4⟩ := h5 o ho
    refine ⟨by omega, ?_, ?_, fun e he => ?_⟩
    · show _ ≤ _; omega
    · show _ ≤ _; omega
    · have := (g4 e he).1
      show _ ≤ _; omega
theorem FactsR.sh {l : List Fact} (h : FactsR l) : Sh l := by have := h.1; show _ ≤ _; omega
theorem law_of {f : FuncId} {args : List AV} {w : World} {cargs : Array Value} (h : ACall cx f args (.c (.bool true))) (hs : cargs.size = args.length) (hr : ∀ (j : Nat) (x : AV) (v : Value), args[j]? = some x → cargs[j]? = some v → RV w nov (mO (fun _ => False)) x v) :
    Calls Tryz.prog f cargs w fun e w' => e = .returned (.bool true) ∧ Below w.heap.size w w' := by
  refine Calls.mono (h.2 w (fun _ => False) cargs trivial (Nat.zero_le _) (fun b hb => hb.elim) hs hr) ?_
  rintro e w' ⟨v, rfl, h1, h2, _⟩
  rw [rv_c h1]
  exact ⟨rfl, ⟨h2.os, h2.tape, h2.output, h2.size, fun b hb => h2.block b hb (fun h => h)⟩⟩
end Go.Proofs.YtcpajbglcgbolaaGreat.Am
/- Reader of a certificate. -/
namespace Go.Proofs.YtcpajbglcgbolaaGreat.Am
open Go.RowKit Go.ChangeShapes Go.WideShapes Go.Deep Go.Joins
section
variable {H : Type} {enc : TypeId × Value → H} {w : World} {base : Nat} {spare : Nat → Bool} {held : Bool}
abbrev NogR (x : Nogood) : Prop := FactsR x.1 ∧ (Lit.int .i64 x.2).wf = true
abbrev CertR (c : GCertificate) : Prop := c.Nogoods.length * 32 ≤ 140737488355328 ∧ ∀ x ∈ c.Nogoods, NogR x
set_option maxRecDepth 100000 in
theorem oNogood : Opens enc Tryz.prog w base spare held 51 cN NogR :=
  opens_struct Tryz.underlying51 (opensF_cons (off' := 1) (en := fun l : List Fact => [AV.sl 2 (l.map cF)]) (R := FactsR) (en' := fun z : Int => [AV.c (.int .i64 z)]) (R' := fun z : Int => (Lit.int .i64 z).wf = true) rfl (by kernel_rfl) oFacts (opensF_last rfl (by kernel_rfl) (opens_int Tryz.underlying3)))
set_option maxRecDepth 100000 in
theorem oNogoods : Opens enc Tryz.prog w base spare held 27 (fun l : List Nogood => [.sl 2 (l.map cN)]) (fun l => l.length * 32 ≤ 140737488355328 ∧ ∀ x ∈ l, NogR x) :=
  opens_slice Tryz.underlying27 (by kernel_rfl) (by kernel_rfl) (by decide) (by decide) oNogood
set_option maxRecDepth 100000 in
theorem oCert : Opens enc Tryz.prog w base spare held 29 cGCertificate CertR :=
  opens_conv (fun p : Int × List Nogood => { Bound := p.1, Nogoods := p.2 : GCertificate })
    (opens_struct Tryz.underlying29 (opensF_cons (off' := 1) (en := fun z : Int => [AV.c (.int .i64 z)]) (R := fun z : Int => (Lit.int .i64 z).wf = true) (en' := fun l : List Nogood => [AV.sl 2 (l.map cN)]) (R' := fun l : List Nogood => l.length * 32 ≤ 140737488355328 ∧ ∀ x ∈ l, NogR x) rfl (by kernel_rfl) (opens_int Tryz.underlying3) (opensF_last rfl (by kernel_rfl) oNogoods)))
    (fun _ => rfl) (fun _ h => h.2)
end
theorem CertR.sh {c : GCertificate} (h : CertR c) : ShC c := by
  refine ⟨?_, fun n hn => ?_⟩
  · have := h.1; show _ ≤ _; omega
  · have := (h.2 n hn).1.1; show _ ≤ _; omega
end Go.Proofs.YtcpajbglcgbolaaGreat.Am
/- stratagemlaw31.CheckerShorter returns true for every input. No condition beyond the row's own. -/
namespace Go.Proofs.YtcpajbglcgbolaaGreat.rowShorter
open Go.ChangeShapes Go.WideShapes Go.ChangeAt Go.RowKit Am
theorem laidOut : laidOutB Tryz.prog = true := by kernel_rfl
set_option maxRecDepth 100000 in
theorem contract (H : Type) (enc : TypeId × Value → H) (W : World) (base : Nat) (args : Array Value) (ds gs : List (DataW H)) (before : List MemPlace)
    (hval : ∀ (j : Nat) t v, Tryz.f6.params[j]? = some t → args[j]? = some v → Value.okWide Tryz.prog W .any base t v)
    (hW : DataW.Whole enc Tryz.prog Tryz.f6.params.toList Rows.checkerShorterSpec.vars false W args.toList ds gs before)
    (hsz : (DataW.weightsEach Tryz.prog (Tryz.f6.params.toList ++ (OpenSpec.ofChange Rows.checkerShorterSpec).bare.plain.varTypes Tryz.prog) (ds ++ gs)).all (· ≤ reachBytes) = true) :
    Calls Tryz.prog 6 args W fun e W' => ∃ v, e = .returned v ∧ Rows.checkerShorterSpec.post enc Tryz.prog Tryz.f6 false true false false W args v W' := by
  have hW' := hW
  obtain ⟨p, q, hA0, hV, rfl, hfz, hnd⟩ := hW
  have hA : DataW.TrodAll enc Tryz.prog W 0 (fun _ => true) true Tryz.f6.params.toList args.toList ds p := hA0
  rw [Tryz.params6] at hA hval
  obtain ⟨v0, vs0, d0, ds0, p0, q0, hargs, rfl, rfl, h0, r0⟩ := trodAll_cons hA
  obtain ⟨v1, vs1, d1, ds1, p1, q1, rfl, rfl, rfl, h1, r1⟩ := trodAll_cons r0
  obtain ⟨v2, vs2, d2, ds2, p2, q2, rfl, rfl, rfl, h2, r2⟩ := trodAll_cons r1
  obtain ⟨rfl, rfl, rfl⟩ := trodAll_nil r2
  obtain rfl : args = #[v0, v1, v2] := Array.ext' hargs
  obtain ⟨rfl, rfl⟩ := trodVars_none hV
  simp only [List.append_nil] at hW' hA0 hsz
  rw [Tryz.params6] at hsz
  obtain ⟨t, ht, k0⟩ := arg_struct Tryz.underlying26 (hval 0 26 v0 rfl rfl) oTask h0 (sized_arg hsz (j := 0) rfl rfl)
  obtain ⟨c, hc, k1⟩ := arg_struct Tryz.underlying29 (hval 1 29 v1 rfl rfl) oCert h1 (sized_arg hsz (j := 1) rfl rfl)
  obtain ⟨b, rfl, rfl, rfl, wd⟩ := open_int Tryz.underlying3 (hval 2 3 v2 rfl rfl) h2
  simp only [List.append_nil] at hW' hA0
  refine (law_of (A_l31_CheckerShorter 100 t c b (shorter_true 100 (by decide) t ht.sh c hc.sh b)) rfl (fun j x v hx hv => ?_)).mono fun e W' ⟨he, hb⟩ => ?_
  · match j, hx, hv with
    | 0, hx, hv => simp at hx hv; subst hx hv; exact k0
    | 1, hx, hv => simp at hx hv; subst hx hv; exact k1
    | 2, hx, hv => simp at hx hv; subst hx hv; exact .c _
    | j + 3, hx, hv => simp at hx
  · subst he
    exact ⟨_, rfl, law_post laidOut rfl (by kernel_rfl) Tryz.underlying4 (by kernel_rfl) hW' hA0 rfl rfl rfl hb⟩
theorem own : ownKnob Tryz.prog.godebug = none := by kernel_rfl
theorem laid_met (os : Os) : laidMet Tryz.prog Rows.checkerShorterRow.laid ((World.holding Tryz.prog os ⟨#[], #[], []⟩).forCall (fun _ _ => 0) ⟨#[], #[.agg #[.slice none 0 0, .slice none 0 0, .slice none 0 0, .slice none 0 0], .agg #[.int .i64 0, .slice none 0 0], .int .i64 0], []⟩).memory :=
  laidMet_of_run' 8 (by kernel_rfl) (by kernel_rfl)
theorem reads (os : Os) {H : Type} (enc : TypeId × Value → H) : ∃ places, DataW.whole enc Tryz.prog ((World.holding Tryz.prog os ⟨#[], #[], []⟩).forCall (fun _ _ => 0) ⟨#[], #[.agg #[.slice none 0 0, .slice none 0 0, .slice none 0 0, .slice none 0 0], .agg #[.int .i64 0, .slice none 0 0], .int .i64 0], []⟩).memory Tryz.f6.params.toList Rows.checkerShorterSpec.vars false (#[.agg #[.slice none 0 0, .slice none 0 0, .slice none 0 0, .slice none 0 0], .agg #[.int .i64 0, .slice none 0 0], .int .i64 0] : Array Value).toList 8 = some ([.agg [.nil, .nil, .nil, .nil], .agg [.lit (.int .i64 0), .nil], .lit (.int .i64 0)], [], places) :=
  ⟨[], by kernel_rfl⟩

set_option maxRecDepth 100000 in
theorem lifted (os : Os) (started : os.Started) (H : Type) (enc : TypeId × Value → H) (F : Stop.Interp) :
    ReturnsInHanded {} Tryz.checked os 6 .any ((OpenSpec.ofChange Rows.checkerShorterSpec).preRow enc Tryz.prog Tryz.f6 Rows.checkerShorterRow.domain false Rows.checkerShorterRow.laid) (((OpenSpec.ofChange Rows.checkerShorterSpec).at F).post enc Tryz.prog Tryz.f6 false true false false) := by
  obtain ⟨places, hx⟩ := reads os enc
  refine returnsInHanded_of_row (C := Tryz.checked) (s := OpenSpec.ofChange Rows.checkerShorterSpec) own started (by kernel_rfl) Tryz.func6
    (witness_row_at (enc := enc) (C := Tryz.checked) false (World.holding Tryz.prog os ⟨#[], #[], []⟩) #[.agg #[.slice none 0 0, .slice none 0 0, .slice none 0 0, .slice none 0 0], .agg #[.int .i64 0, .slice none 0 0], .int .i64 0] rfl (by kernel_rfl) (by kernel_rfl) (by kernel_rfl)
      (OpenSpec.preRow_of_cond 8 hx (by kernel_rfl) (fun k hk => by cases hk) (by kernel_rfl) (laid_met os))) ?_
  intro W base args ds gs before hval hW _ _ hsz _ _ _
  exact contract H enc W base args ds gs before hval hW hsz

/-- THE STATEMENT. -/
theorem said : Rows.CheckerShorterSaid :=
  OpenClaim.holds_of_cond 6 Tryz.f6 rfl rfl rfl rfl rfl rfl rfl ⟨rfl, rfl, rfl, rfl, rfl⟩ rfl rfl rfl rfl rfl (by kernel_rfl) Tryz.func6 (by kernel_rfl)
    (of_decide_eq_true (by kernel_rfl)) (by unfold Func.isWrapper; first | (rw [if_pos (by decide +kernel)]; kernel_rfl) | (rw [if_neg (by decide +kernel)]; exact ⟨rfl, rfl⟩))
    (fun os started H enc _ F => by rw [OpenClaim.pre_eq_preRow]; exact lifted os started H enc F)
end Go.Proofs.YtcpajbglcgbolaaGreat.rowShorter
