/- stratagemlaw31.CheckerVerifies returns true for every input. No condition beyond the row's own. -/
import Derived.Test.YtcpajbglcgbolaaGreatB6
import Derived.Test.YtcpajbglcgbolaaGreatB4
import Derived.Test.YtcpajbglcgbolaaGreatB5
import Derived.Test.YtcpajbglcgbolaaGreatB1
import Derived.Deep.Slices
import Derived.Deep.Fields
import Derived.ChangeSame
import Derived.SizedLaws
import Derived.Lib.SmallJoins
import Derived.Test.YtcpajbglcgbolaaGreatB2
import Derived.Below
import Derived.OpenShut
import Derived.Carry
import Derived.Test.YtcpajbglcgbolaaGreatRows
import Derived.Deep.DeepHandedRow
import Derived.Lib.LaidTab
/- Range loops of the models as recursions. -/
namespace Go.Proofs.YtcpajbglcgbolaaGreat.Am
def M_r05_large_L1_B (_ : GOp) (_y79 : GEffect) (_ : Int) : ((Bool)) → (((Bool)) → Option (Bool)) → Option (Bool) := fun v76 rc => ixv _y79 (fun y79 =>
       sel v76
        (rc (true))
        (rc ((decide (((y79.When.map cF).length : Int) > 64)))))
def M_r05_large_L1_E (_ : GOp) : ((Bool)) → Option (Bool) := fun v76 => some v76
theorem M_r05_large_L1_rg (y69 : GOp) (hl : y69.Effs.length < 9223372036854775807) : ∀ (k n : Nat) (v76 : Bool), n ≤ y69.Effs.length → y69.Effs.length < k + n → M_r05_large_L1 y69 k v76 (n : Int) = Rg (M_r05_large_L1_B y69) (M_r05_large_L1_E y69) (y69.Effs.drop n) n v76 := by
  intro k n v76
  refine rg_of (L := fun k i (p : ((Bool))) => match p with | v76 => M_r05_large_L1 y69 k v76 i) hl (fun k n p y hy hn => ?_) (fun k p => ?_) k n v76
  · have h1 := lt_some hy
    have h2 := w64s hn
    first | (simp only [M_r05_large_L1, M_r05_large_L1_B, List.length_map, decide_lt h1, sel, ix_at hy, ixv, h2]; done) | (simp only [List.length_map] at h1 hy; simp only [M_r05_large_L1, M_r05_large_L1_B, List.length_map, decide_lt h1, sel, ix_at hy, ixv, h2]; done)
  · simp only [M_r05_large_L1, M_r05_large_L1_E, List.length_map, decide_ge, sel]
theorem M_r05_large_L1_eq (y69 : GOp) (v76 : Bool) (hl : y69.Effs.length < 9223372036854775807) : M_r05_large_L1 y69 (((y69.Effs.map cGEffect).length : Int).toNat + 1) v76 0 = Rg (M_r05_large_L1_B y69) (M_r05_large_L1_E y69) y69.Effs 0 v76 := by
  have h := M_r05_large_L1_rg y69 hl (y69.Effs.length + 1) 0 v76 (Nat.zero_le _) (by omega)
  rw [List.length_map, Int.toNat_natCast]
  exact h
def M_r05_large_L2_B (_ : GTask) (_y69 : GOp) (_ : Int) : ((Bool)) → (((Bool)) → Option (Bool)) → Option (Bool) := fun v53 rc => ob1 (ixv _y69 (fun y69 =>
        ob1 (sel v53
          (some true)
          (sel (decide (((y69.Pre.map cF).length : Int) > 64))
            (some true)
            (some (decide (((y69.Effs.map cGEffect).length : Int) > 64)))) : Option (Bool))
         (fun v70 => M_r05_large_L1 y69 ((((y69.Effs.map cGEffect).length : Int)).toNat + 1) v70 0)) : Option (Bool))
       (fun v67 => rc (v67))
def M_r05_large_L2_E (_ : GTask) : ((Bool)) → Option (Bool) := fun v53 => some v53
theorem M_r05_large_L2_rg (a0 : GTask) (hl : a0.Ops.length < 9223372036854775807) : ∀ (k n : Nat) (v53 : Bool), n ≤ a0.Ops.length → a0.Ops.length < k + n → M_r05_large_L2 a0 k v53 (n : Int) = Rg (M_r05_large_L2_B a0) (M_r05_large_L2_E a0) (a0.Ops.drop n) n v53 := by
  intro k n v53
  refine rg_of (L := fun k i (p : ((Bool))) => match p with | v53 => M_r05_large_L2 a0 k v53 i) hl (fun k n p y hy hn => ?_) (fun k p => ?_) k n v53
  · have h1 := lt_some hy
    have h2 := w64s hn
    first | (simp only [M_r05_large_L2, M_r05_large_L2_B, List.length_map, decide_lt h1, sel, ix_at hy, ixv, h2]; done) | (simp only [List.length_map] at h1 hy; simp only [M_r05_large_L2, M_r05_large_L2_B, List.length_map, decide_lt h1, sel, ix_at hy, ixv, h2]; done)
  · simp only [M_r05_large_L2, M_r05_large_L2_E, List.length_map, decide_ge, sel]
theorem M_r05_large_L2_eq (a0 : GTask) (v53 : Bool) (hl : a0.Ops.length < 9223372036854775807) : M_r05_large_L2 a0 (((a0.Ops.map cGOp).length : Int).toNat + 1) v53 0 = Rg (M_r05_large_L2_B a0) (M_r05_large_L2_E a0) a0.Ops 0 v53 := by
  have h := M_r05_large_L2_rg a0 hl (a0.Ops.length + 1) 0 v53 (Nat.zero_le _) (by omega)
  rw [List.length_map, Int.toNat_natCast]
  exact h
def M_r05_outside_L1_B (_ : GTask) (_y18 : Int) (_ : Int) : ((Bool)) → (((Bool)) → Option (Bool)) → Option (Bool) := fun v15 rc => ixv _y18 (fun y18 =>
       sel v15
        (rc (true))
        (sel (decide (y18 < 1))
          (rc (true))
          (rc ((decide (y18 > 64))))))
def M_r05_outside_L1_E (_ : GTask) : ((Bool)) → Option (Bool) := fun v15 => some v15
theorem M_r05_outside_L1_rg (a0 : GTask) (hl : a0.Vars.length < 9223372036854775807) : ∀ (k n : Nat) (v15 : Bool), n ≤ a0.Vars.length → a0.Vars.length < k + n → M_r05_outside_L1 a0 k v15 (n : Int) = Rg (M_r05_outside_L1_B a0) (M_r05_outside_L1_E a0) (a0.Vars.drop n) n v15 := by
  intro k n v15
  refine rg_of (L := fun k i (p : ((Bool))) => match p with | v15 => M_r05_outside_L1 a0 k v15 i) hl (fun k n p y hy hn => ?_) (fun k p => ?_) k n v15
  · have h1 := lt_some hy
    have h2 := w64s hn
    first | (simp only [M_r05_outside_L1, M_r05_outside_L1_B, List.length_map, decide_lt h1, sel, ix_at hy, ixv, h2]; done) | (simp only [List.length_map] at h1 hy; simp only [M_r05_outside_L1, M_r05_outside_L1_B, List.length_map, decide_lt h1, sel, ix_at hy, ixv, h2]; done)
  · simp only [M_r05_outside_L1, M_r05_outside_L1_E, List.length_map, decide_ge, sel]
theorem M_r05_outside_L1_eq (a0 : GTask) (v15 : Bool) (hl : a0.Vars.length < 9223372036854775807) : M_r05_outside_L1 a0 (((a0.Vars.map cI).length : Int).toNat + 1) v15 0 = Rg (M_r05_outside_L1_B a0) (M_r05_outside_L1_E a0) a0.Vars 0 v15 := by
  have h := M_r05_outside_L1_rg a0 hl (a0.Vars.length + 1) 0 v15 (Nat.zero_le _) (by omega)
  rw [List.length_map, Int.toNat_natCast]
  exact h
def M_r05_outside_L2_B (_ : GTask) (_y26 : GOp) (_ : Int) : ((Bool)) → (((Bool)) → Option (Bool)) → Option (Bool) := fun v23 rc => ixv _y26 (fun y26 =>
       sel v23
        (rc (true))
        (sel (decide (y26.Cost < 0))
          (rc (true))
          (rc ((decide (y26.Cost > 1048576))))))
def M_r05_outside_L2_E (_ : GTask) : ((Bool)) → Option (Bool) := fun v23 => some v23
theorem M_r05_outside_L2_rg (a0 : GTask) (hl : a0.Ops.length < 9223372036854775807) : ∀ (k n : Nat) (v23 : Bool), n ≤ a0.Ops.length → a0.Ops.length < k + n → M_r05_outside_L2 a0 k v23 (n : Int) = Rg (M_r05_outside_L2_B a0) (M_r05_outside_L2_E a0) (a0.Ops.drop n) n v23 := by
  intro k n v23
  refine rg_of (L := fun k i (p : ((Bool))) => match p with | v23 => M_r05_outside_L2 a0 k v23 i) hl (fun k n p y hy hn => ?_) (fun k p => ?_) k n v23
  · have h1 := lt_some hy
    have h2 := w64s hn
    first | (simp only [M_r05_outside_L2, M_r05_outside_L2_B, List.length_map, decide_lt h1, sel, ix_at hy, ixv, h2]; done) | (simp only [List.length_map] at h1 hy; simp only [M_r05_outside_L2, M_r05_outside_L2_B, List.length_map, decide_lt h1, sel, ix_at hy, ixv, h2]; done)
  · simp only [M_r05_outside_L2, M_r05_outside_L2_E, List.length_map, decide_ge, sel]
theorem M_r05_outside_L2_eq (a0 : GTask) (v23 : Bool) (hl : a0.Ops.length < 9223372036854775807) : M_r05_outside_L2 a0 (((a0.Ops.map cGOp).length : Int).toNat + 1) v23 0 = Rg (M_r05_outside_L2_B a0) (M_r05_outside_L2_E a0) a0.Ops 0 v23 := by
  have h := M_r05_outside_L2_rg a0 hl (a0.Ops.length + 1) 0 v23 (Nat.zero_le _) (by omega)
  rw [List.length_map, Int.toNat_natCast]
  exact h
def M_r05_malformed_L1_B (a0 : GTask) (_ : GOp) (_y129 : GEffect) (_ : Int) : ((Bool)) → (((Bool)) → Option (Bool)) → Option (Bool) := fun v126 rc => ixv _y129 (fun y129 =>
       sel v126
        (rc (true))
        (ob1 (M_b_Proper a0.Vars y129.When) (fun z130 =>
          sel (!z130)
           (rc (true))
           (ob1 (M_b_Proper a0.Vars [(y129.Var, y129.Val)]) (fun z131 =>
             rc ((!z131)))))))
def M_r05_malformed_L1_E (_ : GTask) (_ : GOp) : ((Bool)) → Option (Bool) := fun v126 => some v126
theorem M_r05_malformed_L1_rg (a0 : GTask) (y113 : GOp) (hl : y113.Effs.length < 9223372036854775807) : ∀ (k n : Nat) (v126 : Bool), n ≤ y113.Effs.length → y113.Effs.length < k + n → M_r05_malformed_L1 a0 y113 k v126 (n : Int) = Rg (M_r05_malformed_L1_B a0 y113) (M_r05_malformed_L1_E a0 y113) (y113.Effs.drop n) n v126 := by
  intro k n v126
  refine rg_of (L := fun k i (p : ((Bool))) => match p with | v126 => M_r05_malformed_L1 a0 y113 k v126 i) hl (fun k n p y hy hn => ?_) (fun k p => ?_) k n v126
  · have h1 := lt_some hy
    have h2 := w64s hn
    first | (simp only [M_r05_malformed_L1, M_r05_malformed_L1_B, List.length_map, decide_lt h1, sel, ix_at hy, ixv, h2]; done) | (simp only [List.length_map] at h1 hy; simp only [M_r05_malformed_L1, M_r05_malformed_L1_B, List.length_map, decide_lt h1, sel, ix_at hy, ixv, h2]; done)
  · simp only [M_r05_malformed_L1, M_r05_malformed_L1_E, List.length_map, decide_ge, sel]
theorem M_r05_malformed_L1_eq (a0 : GTask) (y113 : GOp) (v126 : Bool) (hl : y113.Effs.length < 9223372036854775807) : M_r05_malformed_L1 a0 y113 (((y113.Effs.map cGEffect).length : Int).toNat + 1) v126 0 = Rg (M_r05_malformed_L1_B a0 y113) (M_r05_malformed_L1_E a0 y113) y113.Effs 0 v126 := by
  have h := M_r05_malformed_L1_rg a0 y113 hl (y113.Effs.length + 1) 0 v126 (Nat.zero_le _) (by omega)
  rw [List.length_map, Int.toNat_natCast]
  exact h
def M_r05_malformed_L2_B (a0 : GTask) (_y113 : GOp) (_ : Int) : ((Bool)) → (((Bool)) → Option (Bool)) → Option (Bool) := fun v89 rc => ob1 (ixv _y113 (fun y113 =>
        ob1 (sel v89
          (some true)
          (ob1 (M_b_Proper a0.Vars y113.Pre) (fun z117 =>
            some (!z117))) : Option (Bool))
         (fun v115 => M_r05_malformed_L1 a0 y113 ((((y113.Effs.map cGEffect).length : Int)).toNat + 1) v115 0)) : Option (Bool))
       (fun v111 => rc (v111))
def M_r05_malformed_L2_E (_ : GTask) : ((Bool)) → Option (Bool) := fun v89 => some v89
theorem M_r05_malformed_L2_rg (a0 : GTask) (hl : a0.Ops.length < 9223372036854775807) : ∀ (k n : Nat) (v89 : Bool), n ≤ a0.Ops.length → a0.Ops.length < k + n → M_r05_malformed_L2 a0 k v89 (n : Int) = Rg (M_r05_malformed_L2_B a0) (M_r05_malformed_L2_E a0) (a0.Ops.drop n) n v89 := by
  intro k n v89
  refine rg_of (L := fun k i (p : ((Bool))) => match p with | v89 => M_r05_malformed_L2 a0 k v89 i) hl (fun k n p y hy hn => ?_) (fun k p => ?_) k n v89
  · have h1 := lt_some hy
    have h2 := w64s hn
    first | (simp only [M_r05_malformed_L2, M_r05_malformed_L2_B, List.length_map, decide_lt h1, sel, ix_at hy, ixv, h2]; done) | (simp only [List.length_map] at h1 hy; simp only [M_r05_malformed_L2, M_r05_malformed_L2_B, List.length_map, decide_lt h1, sel, ix_at hy, ixv, h2]; done)
  · simp only [M_r05_malformed_L2, M_r05_malformed_L2_E, List.length_map, decide_ge, sel]
theorem M_r05_malformed_L2_eq (a0 : GTask) (v89 : Bool) (hl : a0.Ops.length < 9223372036854775807) : M_r05_malformed_L2 a0 (((a0.Ops.map cGOp).length : Int).toNat + 1) v89 0 = Rg (M_r05_malformed_L2_B a0) (M_r05_malformed_L2_E a0) a0.Ops 0 v89 := by
  have h := M_r05_malformed_L2_rg a0 hl (a0.Ops.length + 1) 0 v89 (Nat.zero_le _) (by omega)
  rw [List.length_map, Int.toNat_natCast]
  exact h
def M_r05_misnamed_L1_B (y57 : GOp) (v63 : Int) : ((Bool)) → (((Bool)) → Option (Bool)) → Option (Bool) := fun v62 rc => sel v62
       (rc (true))
       (sel (decide ((byt y57.Name v63) < 32))
         (grd (0 ≤ v63) (grd (v63 < (y57.Name.size : Int)) (rc (true))))
         (grd (0 ≤ v63) (grd (v63 < (y57.Name.size : Int)) (rc ((decide ((byt y57.Name v63) > 126)))))))
def M_r05_misnamed_L1_E (_ : GOp) : ((Bool)) → Option (Bool) := fun v62 => some v62
theorem M_r05_misnamed_L1_rg (y57 : GOp) {m : Nat} (hm : (y57.Name.size : Int) = (m : Int)) (hl : m < 9223372036854775807) : ∀ (k n : Nat) (v62 : Bool), n ≤ m → m < k + n → M_r05_misnamed_L1 y57 k v62 (n : Int) = Rn (M_r05_misnamed_L1_B y57) (M_r05_misnamed_L1_E y57) (m - n) n v62 := by
  intro k n v62
  refine rn_of (L := fun k i (p : ((Bool))) => match p with | v62 => M_r05_misnamed_L1 y57 k v62 i) hl (fun k n p hn => ?_) (fun k p => ?_) k n v62
  · have h2 := w64s (Nat.lt_trans hn hl)
    simp only [M_r05_misnamed_L1, M_r05_misnamed_L1_B, hm, decide_lt hn, sel, h2]
  · simp only [M_r05_misnamed_L1, M_r05_misnamed_L1_E, hm, decide_ge, sel]
theorem M_r05_misnamed_L1_eq (y57 : GOp) (v62 : Bool) {m : Nat} (hm : (y57.Name.size : Int) = (m : Int)) (hl : m < 9223372036854775807) : M_r05_misnamed_L1 y57 (((y57.Name.size : Int)).toNat + 1) v62 0 = Rn (M_r05_misnamed_L1_B y57) (M_r05_misnamed_L1_E y57) m 0 v62 := by
  have h := M_r05_misnamed_L1_rg y57 hm hl (m + 1) 0 v62 (Nat.zero_le _) (by omega)
  have e : ((y57.Name.size : Int)).toNat = m := by rw [hm, Int.toNat_natCast]
  rw [e]
  exact h
def M_r05_misnamed_L2_B (_ : GTask) (_y57 : GOp) (_ : Int) : ((Bool)) → (((Bool)) → Option (Bool)) → Option (Bool) := fun v44 rc => ob1 (ixv _y57 (fun y57 =>
        ob1 (sel v44
          (some true)
          (some (decide ((y57.Name.size : Int) > 256))) : Option (Bool))
         (fun v58 => M_r05_misnamed_L1 y57 (((y57.Name.size : Int)).toNat + 1) v58 0)) : Option (Bool))
       (fun v55 => rc (v55))
def M_r05_misnamed_L2_E (_ : GTask) : ((Bool)) → Option (Bool) := fun v44 => some v44
theorem M_r05_misnamed_L2_rg (a0 : GTask) (hl : a0.Ops.length < 9223372036854775807) : ∀ (k n : Nat) (v44 : Bool), n ≤ a0.Ops.length → a0.Ops.length < k + n → M_r05_misnamed_L2 a0 k v44 (n : Int) = Rg (M_r05_misnamed_L2_B a0) (M_r05_misnamed_L2_E a0) (a0.Ops.drop n) n v44 := by
  intro k n v44
  refine rg_of (L := fun k i (p : ((Bool))) => match p with | v44 => M_r05_misnamed_L2 a0 k v44 i) hl (fun k n p y hy hn => ?_) (fun k p => ?_) k n v44
  · have h1 := lt_some hy
    have h2 := w64s hn
    first | (simp only [M_r05_misnamed_L2, M_r05_misnamed_L2_B, List.length_map, decide_lt h1, sel, ix_at hy, ixv, h2]; done) | (simp only [List.length_map] at h1 hy; simp only [M_r05_misnamed_L2, M_r05_misnamed_L2_B, List.length_map, decide_lt h1, sel, ix_at hy, ixv, h2]; done)
  · simp only [M_r05_misnamed_L2, M_r05_misnamed_L2_E, List.length_map, decide_ge, sel]
theorem M_r05_misnamed_L2_eq (a0 : GTask) (v44 : Bool) (hl : a0.Ops.length < 9223372036854775807) : M_r05_misnamed_L2 a0 (((a0.Ops.map cGOp).length : Int).toNat + 1) v44 0 = Rg (M_r05_misnamed_L2_B a0) (M_r05_misnamed_L2_E a0) a0.Ops 0 v44 := by
  have h := M_r05_misnamed_L2_rg a0 hl (a0.Ops.length + 1) 0 v44 (Nat.zero_le _) (by omega)
  rw [List.length_map, Int.toNat_natCast]
  exact h
def M_r06_Is_L1_B (a0 : List Fact) (_y7 : Fact) (v5 : Int) : Unit → (Unit → Option (Bool)) → Option (Bool) := fun _ rc => ixv _y7 (fun y7 =>
       sel (decide (y7.1 < 0))
        (some false)
        (sel (decide (y7.2 < 0))
          (some false)
          (sel (decide (v5 > 0))
            (ix a0 (IntKind.i64.wrap (v5 - 1)) (fun y8 =>
              sel (decide (y8.1 ≥ y7.1))
               (some false)
               (rc ())))
            (rc ()))))
def M_r06_Is_L1_E (_ : List Fact) : Unit → Option (Bool) := fun _ => some true
theorem M_r06_Is_L1_rg (a0 : List Fact) (hl : a0.length < 9223372036854775807) : ∀ (k n : Nat) , n ≤ a0.length → a0.length < k + n → M_r06_Is_L1 a0 k (n : Int) = Rg (M_r06_Is_L1_B a0) (M_r06_Is_L1_E a0) (a0.drop n) n () := by
  intro k n 
  refine rg_of (L := fun k i (p : Unit) => M_r06_Is_L1 a0 k i) hl (fun k n p y hy hn => ?_) (fun k p => ?_) k n ()
  · have h1 := lt_some hy
    have h2 := w64s hn
    first | (simp only [M_r06_Is_L1, M_r06_Is_L1_B, List.length_map, decide_lt h1, sel, ix_at hy, ixv, h2]; done) | (simp only [List.length_map] at h1 hy; simp only [M_r06_Is_L1, M_r06_Is_L1_B, List.length_map, decide_lt h1, sel, ix_at hy, ixv, h2]; done)
  · simp only [M_r06_Is_L1, M_r06_Is_L1_E, List.length_map, decide_ge, sel]
theorem M_r06_Is_L1_eq (a0 : List Fact)  (hl : a0.length < 9223372036854775807) : M_r06_Is_L1 a0 (((a0.map cF).length : Int).toNat + 1) 0 = Rg (M_r06_Is_L1_B a0) (M_r06_Is_L1_E a0) a0 0 () := by
  have h := M_r06_Is_L1_rg a0 hl (a0.length + 1) 0  (Nat.zero_le _) (by omega)
  rw [List.length_map, Int.toNat_natCast]
  exact h
def M_r30_Check_L1_B (_ : Nogood) (_y118 : Fact) (_ : Int) : Unit → (Unit → Option (Unit ⊕ Int)) → Option (Unit ⊕ Int) := fun _ rc => ixv _y118 (fun y118 =>
       sel (decide (y118.1 ≥ 64))
        (some (.inr 2))
        (sel (decide (y118.2 ≥ 64))
          (some (.inr 2))
          (rc ())))
def M_r30_Check_L1_E (_ : Nogood) : Unit → Option (Unit ⊕ Int) := fun _ => some (.inl ())
theorem M_r30_Check_L1_rg (y111 : Nogood) (hl : y111.1.length < 9223372036854775807) : ∀ (k n : Nat) , n ≤ y111.1.length → y111.1.length < k + n → M_r30_Check_L1 y111 k (n : Int) = Rg (M_r30_Check_L1_B y111) (M_r30_Check_L1_E y111) (y111.1.drop n) n () := by
  intro k n 
  refine rg_of (L := fun k i (p : Unit) => M_r30_Check_L1 y111 k i) hl (fun k n p y hy hn => ?_) (fun k p => ?_) k n ()
  · have h1 := lt_some hy
    have h2 := w64s hn
    first | (simp only [M_r30_Check_L1, M_r30_Check_L1_B, List.length_map, decide_lt h1, sel, ix_at hy, ixv, h2]; done) | (simp only [List.length_map] at h1 hy; simp only [M_r30_Check_L1, M_r30_Check_L1_B, List.length_map, decide_lt h1, sel, ix_at hy, ixv, h2]; done)
  · simp only [M_r30_Check_L1, M_r30_Check_L1_E, List.length_map, decide_ge, sel]
theorem M_r30_Check_L1_eq (y111 : Nogood)  (hl : y111.1.length < 9223372036854775807) : M_r30_Check_L1 y111 (((y111.1.map cF).length : Int).toNat + 1) 0 = Rg (M_r30_Check_L1_B y111) (M_r30_Check_L1_E y111) y111.1 0 () := by
  have h := M_r30_Check_L1_rg y111 hl (y111.1.length + 1) 0  (Nat.zero_le _) (by omega)
  rw [List.length_map, Int.toNat_natCast]
  exact h
def M_r30_Check_L2_B (_ : GCertificate) (_y111 : Nogood) (_ : Int) : Unit → (Unit → Option (Unit ⊕ Int)) → Option (Unit ⊕ Int) := fun _ rc => ob1 (ixv _y111 (fun y111 =>
        ob1 (M_r06_Is y111.1) (fun z112 =>
         sel (!z112)
          (some (.inr 2))
          (M_r30_Check_L1 y111 ((((y111.1.map cF).length : Int)).toNat + 1) 0))) : Option (Unit ⊕ Int))
       (osum
       (fun _ => rc ())
       (fun r109 => some (.inr r109)))
def M_r30_Check_L2_E (_ : GCertificate) : Unit → Option (Unit ⊕ Int) := fun _ => some (.inl ())
theorem M_r30_Check_L2_rg (a0 : GCertificate) (hl : a0.Nogoods.length < 9223372036854775807) : ∀ (k n : Nat) , n ≤ a0.Nogoods.length → a0.Nogoods.length < k + n → M_r30_Check_L2 a0 k (n : Int) = Rg (M_r30_Check_L2_B a0) (M_r30_Check_L2_E a0) (a0.Nogoods.drop n) n () := by
  intro k n 
  refine rg_of (L := fun k i (p : Unit) => M_r30_Check_L2 a0 k i) hl (fun k n p y hy hn => ?_) (fun k p => ?_) k n ()
  · have h1 := lt_some hy
    have h2 := w64s hn
    first | (simp only [M_r30_Check_L2, M_r30_Check_L2_B, List.length_map, decide_lt h1, sel, ix_at hy, ixv, h2]; done) | (simp only [List.length_map] at h1 hy; simp only [M_r30_Check_L2, M_r30_Check_L2_B, List.length_map, decide_lt h1, sel, ix_at hy, ixv, h2]; done)
  · simp only [M_r30_Check_L2, M_r30_Check_L2_E, List.length_map, decide_ge, sel]
theorem M_r30_Check_L2_eq (a0 : GCertificate)  (hl : a0.Nogoods.length < 9223372036854775807) : M_r30_Check_L2 a0 (((a0.Nogoods.map cN).length : Int).toNat + 1) 0 = Rg (M_r30_Check_L2_B a0) (M_r30_Check_L2_E a0) a0.Nogoods 0 () := by
  have h := M_r30_Check_L2_rg a0 hl (a0.Nogoods.length + 1) 0  (Nat.zero_le _) (by omega)
  rw [List.length_map, Int.toNat_natCast]
  exact h
def M_r30_Check_L3_B (a0 : GCertificate) (_y124 : Nogood) (_ : Int) : Unit → (Unit → Option (Int)) → Option (Int) := fun _ rc => ixv _y124 (fun y124 =>
       sel (decide (y124.2 < 0))
        (some 1)
        (sel (decide (a0.Bound ≥ 0))
          (sel (decide (y124.2 ≥ a0.Bound))
            (some 1)
            (sel (decide (a0.Bound < 0))
              (sel (y124.2 != 0)
                (some 1)
                (rc ()))
              (rc ())))
          (sel (decide (a0.Bound < 0))
            (sel (y124.2 != 0)
              (some 1)
              (rc ()))
            (rc ()))))
def M_r30_Check_L3_E (_ : GCertificate) : Unit → Option (Int) := fun _ => some 0
theorem M_r30_Check_L3_rg (a0 : GCertificate) (hl : a0.Nogoods.length < 9223372036854775807) : ∀ (k n : Nat) , n ≤ a0.Nogoods.length → a0.Nogoods.length < k + n → M_r30_Check_L3 a0 k (n : Int) = Rg (M_r30_Check_L3_B a0) (M_r30_Check_L3_E a0) (a0.Nogoods.drop n) n () := by
  intro k n 
  refine rg_of (L := fun k i (p : Unit) => M_r30_Check_L3 a0 k i) hl (fun k n p y hy hn => ?_) (fun k p => ?_) k n ()
  · have h1 := lt_some hy
    have h2 := w64s hn
    first | (simp only [M_r30_Check_L3, M_r30_Check_L3_B, List.length_map, decide_lt h1, sel, ix_at hy, ixv, h2]; done) | (simp only [List.length_map] at h1 hy; simp only [M_r30_Check_L3, M_r30_Check_L3_B, List.length_map, decide_lt h1, sel, ix_at hy, ixv, h2]; done)
  · simp only [M_r30_Check_L3, M_r30_Check_L3_E, List.length_map, decide_ge, sel]
theorem M_r30_Check_L3_eq (a0 : GCertificate)  (hl : a0.Nogoods.length < 9223372036854775807) : M_r30_Check_L3 a0 (((a0.Nogoods.map cN).length : Int).toNat + 1) 0 = Rg (M_r30_Check_L3_B a0) (M_r30_Check_L3_E a0) a0.Nogoods 0 () := by
  have h := M_r30_Check_L3_rg a0 hl (a0.Nogoods.length + 1) 0  (Nat.zero_le _) (by omega)
  rw [List.length_map, Int.toNat_natCast]
  exact h
def M_r30_Proper_L1_B (a0 : List Int) (_ : GCertificate) (_y9 : Nogood) (_ : Int) : Unit → (Unit → Option (Int)) → Option (Int) := fun _ rc => ixv _y9 (fun y9 =>
       ob1 (M_b_Proper a0 y9.1) (fun z10 =>
        sel (!z10)
         (some 2)
         (rc ())))
def M_r30_Proper_L1_E (_ : List Int) (_ : GCertificate) : Unit → Option (Int) := fun _ => some 0
theorem M_r30_Proper_L1_rg (a0 : List Int) (a1 : GCertificate) (hl : a1.Nogoods.length < 9223372036854775807) : ∀ (k n : Nat) , n ≤ a1.Nogoods.length → a1.Nogoods.length < k + n → M_r30_Proper_L1 a0 a1 k (n : Int) = Rg (M_r30_Proper_L1_B a0 a1) (M_r30_Proper_L1_E a0 a1) (a1.Nogoods.drop n) n () := by
  intro k n 
  refine rg_of (L := fun k i (p : Unit) => M_r30_Proper_L1 a0 a1 k i) hl (fun k n p y hy hn => ?_) (fun k p => ?_) k n ()
  · have h1 := lt_some hy
    have h2 := w64s hn
    first | (simp only [M_r30_Proper_L1, M_r30_Proper_L1_B, List.length_map, decide_lt h1, sel, ix_at hy, ixv, h2]; done) | (simp only [List.length_map] at h1 hy; simp only [M_r30_Proper_L1, M_r30_Proper_L1_B, List.length_map, decide_lt h1, sel, ix_at hy, ixv, h2]; done)
  · simp only [M_r30_Proper_L1, M_r30_Proper_L1_E, List.length_map, decide_ge, sel]
theorem M_r30_Proper_L1_eq (a0 : List Int) (a1 : GCertificate)  (hl : a1.Nogoods.length < 9223372036854775807) : M_r30_Proper_L1 a0 a1 (((a1.Nogoods.map cN).length : Int).toNat + 1) 0 = Rg (M_r30_Proper_L1_B a0 a1) (M_r30_Proper_L1_E a0 a1) a1.Nogoods 0 () := by
  have h := M_r30_Proper_L1_rg a0 a1 hl (a1.Nogoods.length + 1) 0  (Nat.zero_le _) (by omega)
  rw [List.length_map, Int.toNat_natCast]
  exact h
end Go.Proofs.YtcpajbglcgbolaaGreat.Am
/- Plain laws: the references of Check and Proper; CheckerErrors. -/
namespace Go.Proofs.YtcpajbglcgbolaaGreat.Am
open Go.RowKit
def erN : Er → Int
  | .nil => 0
  | .no e => e
theorem num_eq (e : Er) : M_b_Num e = some (erN e) := by cases e <;> rfl
theorem rg_any {α γ : Type} {B : α → Int → Bool → (Bool → Option γ) → Option γ} {E : Bool → Option γ} {q : α → Bool} : ∀ {l : List α} {i : Int} {v : Bool}, (∀ y ∈ l, ∀ i v rc, B y i v rc = rc (v || q y)) → Rg B E l i v = E (v || l.any q)
  | [], i, v, _ => by rw [Rg, List.any_nil, Bool.or_false]
  | y :: r, i, v, h => by
    rw [Rg, h y (List.mem_cons_self ..), rg_any (fun z hz => h z (List.mem_cons_of_mem _ hz)), List.any_cons, Bool.or_assoc]
theorem rn_any {γ : Type} {B : Int → Bool → (Bool → Option γ) → Option γ} {E : Bool → Option γ} {q : Nat → Bool} : ∀ {m n : Nat} {v : Bool}, (∀ k, n ≤ k → k < n + m → ∀ v rc, B k v rc = rc (v || q k)) → Rn B E m n v = E (v || (List.range' n m).any q)
  | 0, n, v, _ => by rw [Rn]; simp
  | m + 1, n, v, h => by
    rw [Rn, h n (Nat.le_refl _) (by omega), show ((n : Int) + 1) = ((n + 1 : Nat) : Int) from rfl, rn_any (fun k h1 h2 => h k (by omega) (by omega)), List.range'_succ, List.any_cons, Bool.or_assoc]
theorem sel_or {γ : Type} {b : Bool} {rc : Bool → Option γ} {x : Bool} : sel b (rc true) (rc x) = rc (b || x) := by cases b <;> rfl
theorem ref_large (t : GTask) (ht : ShT t) : M_r05_large t = some (largeF t) := by
  have e2 := M_r05_large_L2_eq t (decide (t.Vars.length > 64) || (decide (t.Ops.length > 4096) || decide (t.Goal.length > 64))) ht.ops.lt
  have hv : ∀ K : Bool → Option Bool, ob1 (sel (decide (((t.Vars.map cI).length : Int) > 64)) (some true) (sel (decide (((t.Ops.map cGOp).length : Int) > 4096)) (some true) (some (decide (((t.Goal.map cF).length : Int) > 64)))) : Option (Bool)) K = K (decide (t.Vars.length > 64) || (decide (t.Ops.length > 4096) || decide (t.Goal.length > 64))) := by
    intro K
    simp only [List.length_map]
    have a1 : decide ((t.Vars.length : Int) > 64) = decide (t.Vars.length > 64) := by congr 1; apply propext; omega
    have a2 : decide ((t.Ops.length : Int) > 4096) = decide (t.Ops.length > 4096) := by congr 1; apply propext; omega
    have a3 : decide ((t.Goal.length : Int) > 64) = decide (t.Goal.length > 64) := by congr 1; apply propext; omega
    rw [a1, a2, a3]
    cases decide (t.Vars.length > 64) <;> cases decide (t.Ops.length > 4096) <;> rfl
  rw [M_r05_large, hv, e2, rg_any (q := fun o : GOp => decide (o.Pre.length > 64) || (decide (o.Effs.length > 64) || o.Effs.any fun e => decide (e.When.length > 64))), M_r05_large_L2_E]
  · congr 1
    rw [Bool.eq_iff_iff, largeF, condsF]
    simp only [Bool.or_eq_true, decide_eq_true_iff, List.any_eq_true, List.mem_cons, List.mem_flatMap, condsO, List.mem_map]
    constructor
    · rintro ((h | h | h) | ⟨o, ho, h | h | ⟨e, he, h⟩⟩)
      · exact .inl h
      · exact .inr (.inl h)
      · exact .inr (.inr (.inr ⟨_, .inl rfl, h⟩))
      · exact .inr (.inr (.inr ⟨_, .inr ⟨o, ho, .inl rfl⟩, h⟩))
      · exact .inr (.inr (.inl ⟨o, ho, h⟩))
      · exact .inr (.inr (.inr ⟨_, .inr ⟨o, ho, .inr ⟨e, he, rfl⟩⟩, h⟩))
    · rintro (h | h | ⟨o, ho, h⟩ | ⟨l, rfl | ⟨o, ho, rfl | ⟨e, he, rfl⟩⟩, h⟩)
      · exact .inl (.inl h)
      · exact .inl (.inr (.inl h))
      · exact .inr ⟨o, ho, .inr (.inl h)⟩
      · exact .inl (.inr (.inr h))
      · exact .inr ⟨o, ho, .inl h⟩
      · exact .inr ⟨o, ho, .inr (.inr ⟨e, he, h⟩)⟩
  · intro o ho i v rc
    have e1 := fun v => M_r05_large_L1_eq o v (ht.op o ho).effs.lt
    have a1 : decide ((o.Pre.length : Int) > 64) = decide (o.Pre.length > 64) := by congr 1; apply propext; omega
    have a2 : decide ((o.Effs.length : Int) > 64) = decide (o.Effs.length > 64) := by congr 1; apply propext; omega
    have e3 : ∀ v, M_r05_large_L1 o ((((o.Effs.map cGEffect).length : Int)).toNat + 1) v 0 = some (v || o.Effs.any fun e => decide (e.When.length > 64)) := fun v => by
      rw [e1, rg_any (q := fun e : GEffect => decide (e.When.length > 64)), M_r05_large_L1_E]
      intro e _ i v rc
      rw [M_r05_large_L1_B, ixv, sel_or, List.length_map]
      congr 2
      congr 1; apply propext; omega
    rw [M_r05_large_L2_B, ixv]
    simp only [e3]
    simp only [List.length_map, a1, a2]
    cases v <;> cases decide (o.Pre.length > 64) <;> cases decide (o.Effs.length > 64) <;> rfl
def outF (t : GTask) : Bool := t.Vars.any (fun n => !decide (1 ≤ n ∧ n ≤ 64)) || t.Ops.any (fun o => !decide (0 ≤ o.Cost ∧ o.Cost ≤ 1048576))
theorem ref_out (t : GTask) (ht : ShT t) : M_r05_outside t = some (outF t) := by
  have e1 := M_r05_outside_L1_eq t false ht.vars.lt
  have e2 := fun v => M_r05_outside_L2_eq t v ht.ops.lt
  rw [M_r05_outside, e1, rg_any (q := fun n : Int => !decide (1 ≤ n ∧ n ≤ 64)), M_r05_outside_L1_E, ob1_some, e2, rg_any (q := fun o : GOp => !decide (0 ≤ o.Cost ∧ o.Cost ≤ 1048576)), M_r05_outside_L2_E, Bool.false_or, outF]
  · intro o _ i v rc
    rw [M_r05_outside_L2_B, ixv, sel_or, sel_or]
    congr 2
    rw [Bool.eq_iff_iff, Bool.or_eq_true, decide_eq_true_iff, decide_eq_true_iff, Bool.not_eq_true', decide_eq_false_iff_not]
    omega
  · intro n _ i v rc
    rw [M_r05_outside_L1_B, ixv, sel_or, sel_or]
    congr 2
    rw [Bool.eq_iff_iff, Bool.or_eq_true, decide_eq_true_iff, decide_eq_true_iff, Bool.not_eq_true', decide_eq_false_iff_not]
    omega
def badF (t : GTask) : Bool := !(stateF t.Vars t.Init && propF t.Vars (-1) t.Goal) || t.Ops.any fun o => !propF t.Vars (-1) o.Pre || o.Effs.any fun e => !effF t.Vars e
theorem ref_bad (t : GTask) (ht : ShT t) : M_r05_malformed t = some (badF t) := by
  have e2 := fun v => M_r05_malformed_L2_eq t v ht.ops.lt
  rw [M_r05_malformed, state_eq t.Vars t.Init ht.init, proper_eq t.Vars t.Goal ht.goal]
  have hv : ∀ K : Bool → Option Bool, ob1 (ob1 (some (stateF t.Vars t.Init)) (fun z5 => sel (!z5) (some true) (ob1 (some (propF t.Vars (-1) t.Goal)) (fun z6 => some (!z6))))) K = K (!(stateF t.Vars t.Init && propF t.Vars (-1) t.Goal)) := fun K => by
    cases stateF t.Vars t.Init <;> cases propF t.Vars (-1) t.Goal <;> rfl
  rw [hv, e2, rg_any (q := fun o : GOp => !propF t.Vars (-1) o.Pre || o.Effs.any fun e => !effF t.Vars e), M_r05_malformed_L2_E, badF]
  intro o ho i v rc
  have hso := ht.op o ho
  have e1 := fun v => M_r05_malformed_L1_eq t o v hso.effs.lt
  have e3 : ∀ v, M_r05_malformed_L1 t o ((((o.Effs.map cGEffect).length : Int)).toNat + 1) v 0 = some (v || o.Effs.any fun e => !effF t.Vars e) := fun v => by
    rw [e1, rg_any (q := fun e : GEffect => !effF t.Vars e), M_r05_malformed_L1_E]
    intro e he i v rc
    rw [M_r05_malformed_L1_B, ixv, proper_eq t.Vars e.When (hso.when e he), proper_eq t.Vars [(e.Var, e.Val)] (by show (1 : Nat) ≤ _; decide), ob1_some, ob1_some, sel_or, sel_or, effF]
    cases propF t.Vars (-1) e.When <;> cases propF t.Vars (-1) [(e.Var, e.Val)] <;> rfl
  rw [M_r05_malformed_L2_B, ixv, proper_eq t.Vars o.Pre hso.pre]
  simp only [e3]
  cases v <;> cases propF t.Vars (-1) o.Pre <;> rfl
def misF (t : GTask) : Bool := t.Ops.any fun o => decide (o.Name.size > 256) || !(bl o.Name).all charF
theorem ref_mis (t : GTask) (ht : ShT t) : M_r05_misnamed t = some (misF t) := by
  have e2 := M_r05_misnamed_L2_eq t false ht.ops.lt
  rw [M_r05_misnamed, e2, rg_any (q := fun o : GOp => decide (o.Name.size > 256) || !(bl o.Name).all charF), M_r05_misnamed_L2_E, Bool.false_or, misF]
  intro o ho i v rc
  have hso := (ht.op o ho).name
  have e3 : ∀ v, M_r05_misnamed_L1 o (((o.Name.size : Int)).toNat + 1) v 0 = some (v || !(bl o.Name).all charF) := fun v => by
    rw [M_r05_misnamed_L1_eq o v (m := o.Name.size) rfl (by omega)]
    have := rn_any (B := M_r05_misnamed_L1_B o) (E := M_r05_misnamed_L1_E o) (q := fun k => !(match (bl o.Name)[k]? with | some c => charF c | none => false)) (m := o.Name.size) (n := 0) (v := v) (fun k _ hk v rc => by
      obtain ⟨c, hc, hb⟩ := byt_at o.Name k (by omega)
      rw [M_r05_misnamed_L1_B, hb, hc, sel_dec, grd_t (by omega), grd_t (by omega), grd_t (by omega), grd_t (by omega)]
      simp only [charF]
      by_cases h1 : ((c.toNat : Int)) < 32
      · rw [if_pos h1, sel_or, decide_eq_false (by omega)]; rfl
      · rw [if_neg h1, sel_or]
        congr 2
        rw [Bool.eq_iff_iff, Bool.not_eq_true', decide_eq_true_iff, decide_eq_false_iff_not]
        omega)
    have e0 : Rn (M_r05_misnamed_L1_B o) (M_r05_misnamed_L1_E o) o.Name.size 0 v = _ := this
    rw [e0, M_r05_misnamed_L1_E, ← range_bytes]
    congr 2
    rw [Bool.eq_iff_iff, Bool.not_eq_true', List.all_eq_false]
    simp only [List.any_eq_true, Bool.not_eq_true', Bool.eq_false_iff, ne_eq]
    exact Iff.rfl
  rw [M_r05_misnamed_L2_B, ixv]
  simp only [e3]
  have a1 : decide ((o.Name.size : Int) > 256) = decide (o.Name.size > 256) := by congr 1; apply propext; omega
  rw [a1]
  cases v <;> cases decide (o.Name.size > 256) <;> rfl
theorem any_not {α : Type} (l : List α) (p : α → Bool) : (l.any fun x => !p x) = !l.all p := by rw [List.not_all_eq_any_not]
theorem ref_check (t : GTask) (ht : ShT t) : M_r05_Check t = some (erN (checkF t)) := by
  rw [M_r05_Check, ref_large t ht, ref_out t ht, ref_bad t ht, ref_mis t ht, ob1_some, ob1_some, ob1_some, ob1_some, checkF]
  have hb : badF t = !(stateF t.Vars t.Init && ((condsF t).all (propF t.Vars (-1)) && t.Ops.all (fun o => o.Effs.all (fun e => propF t.Vars (-1) [(e.Var, e.Val)])))) := by
    rw [Bool.eq_iff_iff, badF, Bool.not_eq_true', Bool.eq_false_iff, ne_eq, ← Decidable.not_iff_not, Decidable.not_not]
    simp only [Bool.or_eq_true, Bool.not_eq_true', Bool.and_eq_true, List.any_eq_true, List.all_eq_true, condsF, List.mem_cons, List.mem_flatMap, condsO, List.mem_map, effF, Bool.eq_false_iff, ne_eq]
    constructor
    · intro h
      have h1 : stateF t.Vars t.Init = true ∧ propF t.Vars (-1) t.Goal = true := Decidable.byContradiction fun hh => h (.inl hh)
      have h2 : ∀ o ∈ t.Ops, propF t.Vars (-1) o.Pre = true ∧ ∀ e ∈ o.Effs, propF t.Vars (-1) e.When = true ∧ propF t.Vars (-1) [(e.Var, e.Val)] = true := fun o ho =>
        ⟨Decidable.byContradiction fun hh => h (.inr ⟨o, ho, .inl hh⟩), fun e he => Decidable.byContradiction fun hh => h (.inr ⟨o, ho, .inr ⟨e, he, hh⟩⟩)⟩
      refine ⟨h1.1, fun x hx => ?_, fun o ho e he => ((h2 o ho).2 e he).2⟩
      rcases hx with rfl | ⟨o, ho, rfl | ⟨e, he, rfl⟩⟩
      · exact h1.2
      · exact (h2 o ho).1
      · exact ((h2 o ho).2 e he).1
    · rintro ⟨h1, h2, h3⟩ (h | ⟨o, ho, h | ⟨e, he, h⟩⟩)
      · exact h ⟨h1, h2 _ (.inl rfl)⟩
      · exact h (h2 _ (.inr ⟨o, ho, .inl rfl⟩))
      · exact h ⟨h2 _ (.inr ⟨o, ho, .inr ⟨e, he, rfl⟩⟩), h3 o ho e he⟩
  have hm : misF t = !t.Ops.all (fun o => (bl o.Name).all charF && decide (o.Name.size ≤ 256)) := by
    rw [← any_not, misF]
    congr 1
    funext o
    have : decide (o.Name.size > 256) = !decide (o.Name.size ≤ 256) := by rw [Bool.eq_iff_iff, decide_eq_true_iff, Bool.not_eq_true', decide_eq_false_iff_not]; omega
    rw [this]
    cases decide (o.Name.size ≤ 256) <;> cases (bl o.Name).all charF <;> rfl
  rw [hb, hm, outF, any_not, any_not]
  cases largeF t with
  | true => rfl
  | false =>
    rw [sel_ff, if_neg (by decide)]
    cases t.Vars.all (fun n => decide (1 ≤ n ∧ n ≤ 64)) with
    | false => rfl
    | true =>
      cases t.Ops.all (fun o => decide (0 ≤ o.Cost ∧ o.Cost ≤ 1048576)) with
      | false => rfl
      | true =>
        cases (stateF t.Vars t.Init && ((condsF t).all (propF t.Vars (-1)) && t.Ops.all (fun o => o.Effs.all (fun e => propF t.Vars (-1) [(e.Var, e.Val)])))) with
        | false => rfl
        | true =>
          cases t.Ops.all (fun o => (bl o.Name).all charF && decide (o.Name.size ≤ 256)) <;> rfl
theorem is_loop (l : List Fact) (hs : Sh l) : ∀ (r : List Fact) (n : Nat) (last : Int), l.drop n = r → n ≤ l.length → -1 ≤ last → (n = 0 → last = -1) → (∀ m, n = m + 1 → ∃ x, l[m]? = some x ∧ x.1 = last) → Rg (M_r06_Is_L1_B l) (M_r06_Is_L1_E l) r n () = some (vF last r)
  | [], _, _, _, _, _, _, _ => rfl
  | y :: r, n, last, hd, hn, hl, h0, hp => by
    rw [Rg, vF]
    obtain ⟨hy, hd', hlt⟩ := drop_cons hd
    have hih : 0 ≤ y.1 → Rg (M_r06_Is_L1_B l) (M_r06_Is_L1_E l) r ((n : Int) + 1) () = some (vF y.1 r) := fun h => is_loop l hs r (n + 1) y.1 hd' hlt (by omega) (by omega) (fun m hm => ⟨y, by rw [show m = n by omega]; exact hy, rfl⟩)
    simp only [M_r06_Is_L1_B, ixv, sel_dec]
    by_cases h1 : y.1 < 0
    · rw [if_pos h1, decide_eq_false (by omega)]; rfl
    · rw [if_neg h1]
      by_cases h3 : y.2 < 0
      · rw [if_pos h3, decide_eq_false (by omega)]; rfl
      · rw [if_neg h3]
        cases n with
        | zero =>
          have := h0 rfl
          rw [if_neg (by omega), decide_eq_true (by omega)]
          exact hih (by omega)
        | succ m =>
          obtain ⟨x, hx, hxl⟩ := hp m rfl
          rw [if_pos (by omega), w64 (by omega) (by have := hs; unfold Sh at this; omega), show (((m + 1 : Nat) : Int) - 1) = (m : Int) by omega, ix_at hx]
          by_cases h5 : x.1 ≥ y.1
          · rw [if_pos h5, decide_eq_false (by omega)]; rfl
          · rw [if_neg h5, decide_eq_true (by omega)]
            exact hih (by omega)
theorem is06_eq (l : List Fact) (hl : Sh l) : M_r06_Is l = some (vF (-1) l) := by
  rw [M_r06_Is, M_r06_Is_L1_eq _ hl.lt]
  exact is_loop l hl l 0 (-1) rfl (Nat.zero_le _) (by omega) (fun _ => rfl) (fun m hm => by omega)
theorem ref_cert (c : GCertificate) (hc : ShC c) : M_r30_Check c = some (erN (certF c)) := by
  rw [M_r30_Check, certF, sel_dec, sel_dec]
  by_cases h1 : c.Bound < -1
  · rw [if_pos h1, if_pos (Or.inl h1)]; rfl
  · rw [if_neg h1]
    by_cases h2 : c.Bound > 1099511627776
    · rw [if_pos h2, if_pos (Or.inr h2)]; rfl
    · rw [if_neg h2, if_neg (by omega), ob1_some, osum_inl, sel_dec, List.length_map]
      by_cases h3 : c.Nogoods.length > 4096
      · rw [if_pos (by omega), if_pos h3]; rfl
      · have e2 := M_r30_Check_L2_eq c (by omega)
        have e3 := M_r30_Check_L3_eq c (by omega)
        rw [List.length_map] at e2 e3
        rw [if_neg (by omega), if_neg h3, e2, rg_all (p := fun n : Nogood => frmF n.1) (c := some (.inr 2))]
        · cases ha : c.Nogoods.all fun n => frmF n.1 with
          | false => rw [if_neg (by decide), ob1_some, osum_inr, if_neg (by decide)]; rfl
          | true =>
            rw [if_pos rfl, if_pos rfl, M_r30_Check_L2_E, ob1_some, osum_inl, e3, rg_all (p := distF c.Bound) (c := some 1), M_r30_Check_L3_E]
            · split <;> rfl
            · intro n _ i rc
              rw [M_r30_Check_L3_B, ixv, distF]
              simp only [sel_dec]
              by_cases q1 : n.2 < 0
              · rw [if_pos q1, decide_eq_false (by omega)]; rfl
              · rw [if_neg q1]
                by_cases q2 : c.Bound ≥ 0
                · rw [if_pos q2]
                  by_cases q3 : n.2 ≥ c.Bound
                  · rw [if_pos q3, decide_eq_false (by omega)]; rfl
                  · rw [if_neg q3, if_neg (by omega), decide_eq_true (by omega)]; rfl
                · rw [if_neg q2, if_pos (by omega)]
                  by_cases q4 : n.2 = 0
                  · rw [show (n.2 != 0) = false from by simp [q4], sel_ff, decide_eq_true (by omega)]; rfl
                  · rw [show (n.2 != 0) = true from by simp [q4], sel_tt, decide_eq_false (by omega)]; rfl
        · intro n hn i rc
          have e1 := M_r30_Check_L1_eq n (hc.each n hn).lt
          rw [M_r30_Check_L2_B, ixv, is06_eq n.1 (hc.each n hn), ob1_some, frmF]
          cases vF (-1) n.1 with
          | false => rfl
          | true =>
            rw [Bool.not_true, sel_ff, e1, rg_all (p := fun x : Fact => decide (x.1 < 64 ∧ x.2 < 64)) (c := some (.inr 2)), M_r30_Check_L1_E, Bool.true_and, limF]
            · cases n.1.all fun x => decide (x.1 < 64 ∧ x.2 < 64) <;> rfl
            · intro x _ i rc
              rw [M_r30_Check_L1_B, ixv, sel_dec, sel_dec]
              by_cases h1 : x.1 ≥ 64
              · rw [if_pos h1, decide_eq_false (by omega)]; rfl
              · rw [if_neg h1]
                by_cases h2 : x.2 ≥ 64
                · rw [if_pos h2, decide_eq_false (by omega)]; rfl
                · rw [if_neg h2, decide_eq_true (by omega)]; rfl
theorem certF_code {c : GCertificate} {e : Int} (h : certF c = .no e) : e ≠ 0 := by
  unfold certF at h
  split at h
  · injection h with h; omega
  · split at h
    · injection h with h; omega
    · split at h
      · split at h
        · cases h
        · injection h with h; omega
      · injection h with h; omega
theorem ref_proper (vars : List Int) (c : GCertificate) (hc : ShC c) : M_r30_Proper vars c = some (erN (properF vars c)) := by
  have e1 := M_r30_Proper_L1_eq vars c hc.list.lt
  rw [M_r30_Proper, ref_cert c hc, ob1_some, properF, e1]
  cases he : certF c with
  | no e =>
    have := certF_code he
    rw [show (erN (Er.no e) != 0) = true from by simp [erN, this]]; rfl
  | nil =>
    show sel false _ (Rg _ _ _ _ _) = _
    rw [sel_ff, rg_all (p := fun n : Nogood => propF vars (-1) n.1) (c := some 2), M_r30_Proper_L1_E]
    · simp only; split <;> rfl
    · intro n hn i rc
      rw [M_r30_Proper_L1_B, ixv, proper_eq vars n.1 (hc.each n hn), ob1_some]
      cases propF vars (-1) n.1 <;> rfl
end Go.Proofs.YtcpajbglcgbolaaGreat.Am
/- Models printed by my decompiler, and the proofs that the code computes them. -/
namespace Go.Proofs.YtcpajbglcgbolaaGreat.Am
open Go.RowKit
theorem ci_XDVer {p K : Prop} (k : K) (h : p := by first | rfl | exact ⟨rfl, rfl⟩ | exact BW.fr FrV.h | (refine BW.fr ?_; assumption) | (refine ⟨rfl, ?_⟩; (simp [cGTask, cI, cF, cGOp, cGEffect, cGCertificate, cN, cL_cI, take_len_map]; done)) | (refine RowK.same ?_ FrI.h; first | rfl | (simp [cGTask, cI, cF, cGOp, cGEffect, cGCertificate, cN, cL_cI, take_len_map]; done)) | (refine row_part1 ?_; (repeat (first | exact BWL.nil | exact bwll_nil | exact bw_c | exact BW.sl | exact BW.nil | exact bwll_same rfl FrI.h | refine BWL.cons ?_ ?_ | refine bwll_cons ?_ ?_ | (refine bw_own3 rfl rfl rfl FrI.h ?_ ?_ ?_) | exact BW.fr FrV.h | exact BW.fr (by assumption) | refine bw_agg ?_ | refine bw_clo ?_ | refine bw_ptr rfl rfl rfl ?_ | (refine bw_own rfl rfl rfl ?_ FrI.h ?_ ?_) | assumption | omega | rfl | (rw [List.length_map, ← List.length_append]; assumption) | (refine bwll_same ?_ FrI.h; (simp [cGTask, cI, cF, cGOp, cGEffect, cGCertificate, cN, cL_cI] <;> fail)) | (rw [List.map_set]; refine bwll_set (by first | rfl | omega | simp) ?_ ?_) | refine bwll_set (by first | rfl | omega | simp) ?_ ?_ | (rw [List.map_replicate]; refine bwll_rep ?_) | refine bwll_rep ?_ | (rw [List.map_append]; refine bwll_append ?_ ?_) | refine bwll_append ?_ ?_ | (simp [cGTask, cI, cF, cGOp, cGEffect, cGCertificate, cN, cL_cI, take_len_map] <;> fail) | (rw [List.drop_zero, List.take_of_length_le] <;> first | rfl | (simp [cGTask, cI, cF, cGOp, cGEffect, cGCertificate, cN, cL_cI] <;> fail)) | (simp; omega) | (simp only [List.length_map, List.drop_zero, List.length_cons, List.length_nil, Nat.zero_add, Nat.add_zero] at *; omega))); done) | ((repeat (first | exact BWL.nil | exact bwll_nil | exact bw_c | exact BW.sl | exact BW.nil | exact bwll_same rfl FrI.h | refine BWL.cons ?_ ?_ | refine bwll_cons ?_ ?_ | (refine bw_own3 rfl rfl rfl FrI.h ?_ ?_ ?_) | exact BW.fr FrV.h | exact BW.fr (by assumption) | refine bw_agg ?_ | refine bw_clo ?_ | refine bw_ptr rfl rfl rfl ?_ | (refine bw_own rfl rfl rfl ?_ FrI.h ?_ ?_) | assumption | omega | rfl | (rw [List.length_map, ← List.length_append]; assumption) | (refine bwll_same ?_ FrI.h; (simp [cGTask, cI, cF, cGOp, cGEffect, cGCertificate, cN, cL_cI] <;> fail)) | (rw [List.map_set]; refine bwll_set (by first | rfl | omega | simp) ?_ ?_) | refine bwll_set (by first | rfl | omega | simp) ?_ ?_ | (rw [List.map_replicate]; refine bwll_rep ?_) | refine bwll_rep ?_ | (rw [List.map_append]; refine bwll_append ?_ ?_) | refine bwll_append ?_ ?_ | (simp [cGTask, cI, cF, cGOp, cGEffect, cGCertificate, cN, cL_cI, take_len_map] <;> fail) | (rw [List.drop_zero, List.take_of_length_le] <;> first | rfl | (simp [cGTask, cI, cF, cGOp, cGEffect, cGCertificate, cN, cL_cI] <;> fail)) | (simp; omega) | (simp only [List.length_map, List.drop_zero, List.length_cons, List.length_nil, Nat.zero_add, Nat.add_zero] at *; omega))); done) | (simp [cGTask, cI, cF, cGOp, cGEffect, cGCertificate, cN, cL_cI, take_len_map]; done)) : p ∧ K := ⟨h, k⟩
theorem ca_XDVer {P : Prop} (h : P := by repeat (first | exact True.intro | refine ci_XDVer ?_)) : P := h
theorem pr_XDVer {p K : Prop} (k : K) (h : p := by first | assumption | exact Int.natCast_nonneg _ | exact Nat.le_refl _ | exact Nat.zero_le _ | omega | (simp; done) | (simp; omega)) : p ∧ K := ⟨h, k⟩
theorem dr_XDVer {b : Bool} {p K : Prop} (k : K) (h : b = true → p := by intro h; first | (cases h; done) | exact ⟨by kernel_rfl, by kernel_rfl⟩) : (b = true → p) ∧ K := ⟨h, k⟩
theorem cl_XDVer {C : Cx} {n : Nat} {o : Oper} {τ : Nat → AV} {η : Nat → Ent} {f : FuncId} {os : Array Operand} {ats : Array TypeId} {r : AV} {args : List AV} {K : Foot → Prop} (ho : o.op = .call ⟨.value (.func f), os, ats⟩) (hc : ACall C f args r) (k : K ⟨r, [], []⟩)
    (hd : InB n o.dst := by exact Nat.le_of_ble_eq_true rfl) (hargs : os.toList.map (evA τ) = args := by first | rfl | (simp [cGTask, cI, cF, cGOp, cGEffect, cGCertificate, cN, cL_cI]; done) | (repeat (first | exact rfl | refine cons_eq ?_ ?_ | exact sl_dt rfl))) (hfr : frs args := by repeat (first | exact trivial | exact fr1_eA _ | exact fr0_eA _ | exact fr1_fr (by assumption) | exact FrV.h | refine And.intro ?_ ?_)) (hr : fr1 r := by repeat (first | exact trivial | exact fr1_eA _ | exact fr0_eA _ | exact fr1_fr (by assumption) | exact FrV.h | refine And.intro ?_ ?_)) : ∃ f : Foot, LF C n o τ η f ∧ K f := ⟨_, lf_call ho hd hargs hc hfr hr, k⟩
def M_r31_claims_L1 (a0 : GCertificate) (a1 : List Int) (a2 : Int) : Nat → Int → Option (Bool)
  | 0, _ => none
  | k7 + 1, v6 =>
    sel (decide (v6 < ((a0.Nogoods.map cN).length : Int)))
     (ix a0.Nogoods v6 (fun y8 =>
       sel (decide (y8.2 ≤ a2))
        (ob1 (M_b_Holds y8.1 a1) (fun z9 =>
          sel z9
           (some true)
           (M_r31_claims_L1 a0 a1 a2 k7 (IntKind.i64.wrap (v6 + 1)))))
        (M_r31_claims_L1 a0 a1 a2 k7 (IntKind.i64.wrap (v6 + 1)))))
     (some false)
def M_r31_claims (a0 : GCertificate) (a1 : List Int) (a2 : Int) : Option (Bool) :=
  M_r31_claims_L1 a0 a1 a2 ((((a0.Nogoods.map cN).length : Int)).toNat + 1) 0
set_option maxHeartbeats 16000000 in
set_option maxRecDepth 100000 in
theorem A_r31_claims (a0 : GCertificate) (a1 : List Int) (a2 : Int) {r1 : Bool} (h : M_r31_claims a0 a1 a2 = some r1) : ACall cx 29 [.agg [.c (.int .i64 a0.Bound), .sl 2 (a0.Nogoods.map cN)], .sl 1 (a1.map cI), .c (.int .i64 a2)] (.c (.bool r1)) := by
  refine aOf Tryz.func29 rfl (by decide) rfl (Nat.le_of_ble_eq_true rfl) ?_; intro _; unfold M_r31_claims at h; refine aSq ?_; refine aRg ?_; intro _; refine dr_XDVer ?_; refine aSq ?_; refine aSq ?_; refine aRg ?_; intro _; refine dr_XDVer ?_; refine aBk ?_; refine awp_loop (α := Nat × Int) (fun x => mkS 27 [(1, .sl 1 (a1.map cI)), (2, .c (.int .i64 a2)), (10, .sl 2 (a0.Nogoods.map cN)), (11, .c (.int .i64 ((a0.Nogoods.map cN).length : Int))), (12, .c (.int .i64 x.2))] []) (fun x => M_r31_claims_L1 a0 a1 a2 x.1 x.2 = some r1) (fun x => x.1) ((((a0.Nogoods.map cN).length : Int)).toNat + 1, 0) h ?_ ?_
  · exact ca_XDVer
  · intro x1 h; intro _; obtain ⟨k7, m2, h⟩ := succ_of (f := fun n => M_r31_claims_L1 a0 a1 a2 n x1.2) rfl h; replace h : M_r31_claims_L1 a0 a1 a2 (k7 + 1) x1.2 = some r1 := h; rw [M_r31_claims_L1] at h; refine aSq ?_; refine aRg ?_; intro _; refine dr_XDVer ?_; refine aSq ?_; refine aCd ?_; intro _; refine spl h (fun c3 h => ?_) (fun c3 h => ?_)
    · refine aSk ?_; refine aSq ?_; refine aBk ?_; refine aSq ?_; refine aRg ?_; intro _; obtain ⟨y8, w4, q5, h⟩ := ix_ok h; refine Exists.intro (cN y8) (And.intro (map_at' w4) ?_); intro _; refine pr_XDVer ?_; refine dr_XDVer ?_; refine aSq ?_; refine aRg ?_; intro _; refine spl h (fun c6 h => ?_) (fun c6 h => ?_)
      · intro _; obtain ⟨z9, u7, h⟩ := ob1_ok h; refine cl_XDVer rfl (A_b_Holds y8.1 a1 u7) ?_; intro _; refine dr_XDVer ?_; refine aCd ?_; intro _; refine spl h (fun c8 h => ?_) (fun c8 h => ?_)
        · refine aSq ?_; refine aRg ?_; intro _; refine dr_XDVer ?_; refine aRt ?_; intro _; obtain rfl := inj1 h; exact ca_XDVer
        · refine aSk ?_; refine aRg ?_; intro _; refine dr_XDVer ?_; refine ⟨(k7, (IntKind.i64.wrap (x1.2 + 1))), h, ltS m2, ?_⟩; exact ca_XDVer
      · intro _; refine dr_XDVer ?_; refine aCd ?_; intro _; refine litF ?_; refine aSk ?_; refine aRg ?_; intro _; refine dr_XDVer ?_; refine ⟨(k7, (IntKind.i64.wrap (x1.2 + 1))), h, ltS m2, ?_⟩; exact ca_XDVer
    · refine aEx ?_; refine aSq ?_; refine aRg ?_; intro _; refine dr_XDVer ?_; refine aRt ?_; intro _; obtain rfl := inj1 h; exact ca_XDVer
def M_r31_open_L1 (a0 : GTask) (a1 : GCertificate) (a2 : Nogood) (a3 : Int) (v2 : Int) (z5 : List (List Int)) : Nat → Int → Option (Bool)
  | 0, _ => none
  | k18 + 1, v17 =>
    sel (decide (v17 < ((z5.map cL_cI).length : Int)))
     (ix z5 v17 (fun y19 =>
       ob2 (M_b_Apply a0 y19 a3) (fun z20 z21 =>
        sel z21
         (ob1 (M_b_Holds a2.1 z20) (fun z22 =>
           sel z22
            (ob1 (M_r31_claims a1 y19 v2) (fun z23 =>
              sel (!z23)
               (some true)
               (M_r31_open_L1 a0 a1 a2 a3 v2 z5 k18 (IntKind.i64.wrap (v17 + 1)))))
            (M_r31_open_L1 a0 a1 a2 a3 v2 z5 k18 (IntKind.i64.wrap (v17 + 1)))))
         (M_r31_open_L1 a0 a1 a2 a3 v2 z5 k18 (IntKind.i64.wrap (v17 + 1))))))
     (some false)
def M_r31_open (a0 : GTask) (a1 : GCertificate) (a2 : Nogood) (a3 : Int) : Option (Bool) :=
  ix a0.Ops a3 (fun y1 =>
   ob1 (sel (decide (a1.Bound < 0))
     (some (.inl 0))
     (sel (decide ((IntKind.i64.wrap (a2.2 + y1.Cost)) ≥ a1.Bound))
       (some (.inr false))
       (some (.inl (IntKind.i64.wrap (a2.2 + y1.Cost))))) : Option (Int ⊕ Bool))
    (osum
    (fun v2 => ob1 (M_b_States a0.Vars) (fun z5 =>
       M_r31_open_L1 a0 a1 a2 a3 v2 z5 ((((z5.map cL_cI).length : Int)).toNat + 1) 0))
    (fun r3 => some r3)))
set_option maxHeartbeats 16000000 in
set_option maxRecDepth 100000 in
theorem A_r31_open (a0 : GTask) (a1 : GCertificate) (a2 : Nogood) (a3 : Int) {r1 : Bool} (h : M_r31_open a0 a1 a2 a3 = some r1) : ACall cx 32 [.agg [.sl 1 (a0.Vars.map cI), .sl 1 (a0.Init.map cI), .sl 2 (a0.Goal.map cF), .sl 4 (a0.Ops.map cGOp)], .agg [.c (.int .i64 a1.Bound), .sl 2 (a1.Nogoods.map cN)], .agg [.sl 2 (a2.1.map cF), .c (.int .i64 a2.2)], .c (.int .i64 a3)] (.c (.bool r1)) := by
  refine aOf Tryz.func32 rfl (by decide) rfl (Nat.le_of_ble_eq_true rfl) ?_; intro _; unfold M_r31_open at h; refine aSq ?_; refine aRg ?_; intro _; refine dr_XDVer ?_; refine aSq ?_; refine aRg ?_; intro _; obtain ⟨y1, w1, q2, h⟩ := ix_ok h; refine Exists.intro (cGOp y1) (And.intro (map_at' w1) ?_); intro _; refine pr_XDVer ?_; refine dr_XDVer ?_; obtain ⟨o3, h, hK4⟩ := ob1_ok h; refine awp_cut (α := Int) (fun v2 => mkS 60 [(3, .c (.int .i64 a3)), (4, .ptr 4 0 0 0), (5, .ptr 5 0 0 0), (6, .ptr 6 0 0 0), (9, .c (.int .i64 v2))] [(4, ⟨26, 4, true, [[.sl 1 (a0.Vars.map cI), .sl 1 (a0.Init.map cI), .sl 2 (a0.Goal.map cF), .sl 4 (a0.Ops.map cGOp)]]⟩), (5, ⟨29, 2, true, [[.c (.int .i64 a1.Bound), .sl 2 (a1.Nogoods.map cN)]]⟩), (6, ⟨51, 2, true, [[.sl 2 (a2.1.map cF), .c (.int .i64 a2.2)]]⟩)]) (fun v => o3 = (.inl v)) ?_ ?_
  · refine aSq ?_; refine aRg ?_; intro _; refine dr_XDVer ?_; refine aCd ?_; intro _; refine spl h (fun c5 h => ?_) (fun c5 h => ?_)
    · refine aRg ?_; intro _; refine dr_XDVer ?_; refine ⟨0, (Option.some.inj h).symm, ?_⟩; exact ca_XDVer
    · refine aSq ?_; refine aRg ?_; intro _; refine dr_XDVer ?_; refine aCd ?_; intro _; refine spl h (fun c6 h => ?_) (fun c6 h => ?_)
      · refine aSq ?_; refine aRg ?_; intro _; refine dr_XDVer ?_; refine aRt ?_; have j7 := Option.some.inj h; subst j7; replace h := (osum_r hK4); intro _; obtain rfl := inj1 h; exact ca_XDVer
      · refine aSk ?_; refine ⟨(IntKind.i64.wrap (a2.2 + y1.Cost)), (Option.some.inj h).symm, ?_⟩; exact ca_XDVer
  · rintro v2 ho; have ho := ho.symm; subst ho; intro _; replace h := (osum_l hK4); refine aSq ?_; refine aSq ?_; refine aRg ?_; intro _; obtain ⟨z5, u8, h⟩ := ob1_ok h; refine cl_XDVer rfl (A_b_States a0.Vars u8) ?_; intro _; refine dr_XDVer ?_; refine aBk ?_; refine awp_loop (α := Nat × Int) (fun x => mkS 60 [(3, .c (.int .i64 a3)), (4, .ptr 4 0 0 0), (5, .ptr 5 0 0 0), (6, .ptr 6 0 0 0), (9, .c (.int .i64 v2)), (32, .sl 1 (z5.map cL_cI)), (33, .c (.int .i64 ((z5.map cL_cI).length : Int))), (34, .c (.int .i64 x.2))] [(4, ⟨26, 4, true, [[.sl 1 (a0.Vars.map cI), .sl 1 (a0.Init.map cI), .sl 2 (a0.Goal.map cF), .sl 4 (a0.Ops.map cGOp)]]⟩), (5, ⟨29, 2, true, [[.c (.int .i64 a1.Bound), .sl 2 (a1.Nogoods.map cN)]]⟩), (6, ⟨51, 2, true, [[.sl 2 (a2.1.map cF), .c (.int .i64 a2.2)]]⟩)]) (fun x => M_r31_open_L1 a0 a1 a2 a3 v2 z5 x.1 x.2 = some r1) (fun x => x.1) ((((z5.map cL_cI).length : Int)).toNat + 1, 0) h ?_ ?_
    · exact ca_XDVer
    · intro x9 h; intro _; obtain ⟨k18, m10, h⟩ := succ_of (f := fun n => M_r31_open_L1 a0 a1 a2 a3 v2 z5 n x9.2) rfl h; replace h : M_r31_open_L1 a0 a1 a2 a3 v2 z5 (k18 + 1) x9.2 = some r1 := h; rw [M_r31_open_L1] at h; refine aSq ?_; refine aRg ?_; intro _; refine dr_XDVer ?_; refine aSq ?_; refine aCd ?_; intro _; refine spl h (fun c11 h => ?_) (fun c11 h => ?_)
      · refine aSk ?_; refine aSq ?_; refine aBk ?_; refine aSq ?_; refine aRg ?_; intro _; obtain ⟨y19, w12, q13, h⟩ := ix_ok h; refine Exists.intro (cL_cI y19) (And.intro (map_at' w12) ?_); intro _; refine pr_XDVer ?_; refine dr_XDVer ?_; refine aSq ?_; refine aRg ?_; intro _; obtain ⟨z20, z21, u14, h⟩ := ob2_ok h; refine cl_XDVer rfl (A_b_Apply a0 y19 a3 u14) ?_; intro _; refine dr_XDVer ?_; refine aSq ?_; refine aRg ?_; intro _; refine spl h (fun c15 h => ?_) (fun c15 h => ?_)
        · intro _; obtain ⟨z22, u16, h⟩ := ob1_ok h; refine cl_XDVer rfl (A_b_Holds a2.1 z20 u16) ?_; intro _; refine spl h (fun c17 h => ?_) (fun c17 h => ?_)
          · intro _; obtain ⟨z23, u18, h⟩ := ob1_ok h; refine cl_XDVer rfl (A_r31_claims a1 y19 v2 u18) ?_; intro _; refine dr_XDVer ?_; refine aCd ?_; intro _; refine spl h (fun c19 h => ?_) (fun c19 h => ?_)
            · refine aSq ?_; refine aRg ?_; intro _; refine dr_XDVer ?_; refine aRt ?_; intro _; obtain rfl := inj1 h; exact ca_XDVer
            · refine aSk ?_; refine aRg ?_; intro _; refine dr_XDVer ?_; refine ⟨(k18, (IntKind.i64.wrap (x9.2 + 1))), h, ltS m10, ?_⟩; exact ca_XDVer
          · intro _; refine dr_XDVer ?_; refine aCd ?_; intro _; refine litF ?_; refine aSk ?_; refine aRg ?_; intro _; refine dr_XDVer ?_; refine ⟨(k18, (IntKind.i64.wrap (x9.2 + 1))), h, ltS m10, ?_⟩; exact ca_XDVer
        · intro _; refine dr_XDVer ?_; refine aCd ?_; intro _; refine litF ?_; refine aSk ?_; refine aRg ?_; intro _; refine dr_XDVer ?_; refine ⟨(k18, (IntKind.i64.wrap (x9.2 + 1))), h, ltS m10, ?_⟩; exact ca_XDVer
      · refine aEx ?_; refine aSq ?_; refine aRg ?_; intro _; refine dr_XDVer ?_; refine aRt ?_; intro _; obtain rfl := inj1 h; exact ca_XDVer
def M_r31_Where_L1 (a0 : GTask) (a1 : GCertificate) (z21 : List (List Int)) : Nat → Int → Option (Unit ⊕ (Int × Int × Int))
  | 0, _ => none
  | k30 + 1, v29 =>
    sel (decide (v29 < ((z21.map cL_cI).length : Int)))
     (ix z21 v29 (fun y31 =>
       sel (a1.Bound != 0)
        (ob1 (M_b_Holds a0.Goal y31) (fun z32 =>
          sel z32
           (ob1 (M_r31_claims a1 y31 0) (fun z33 =>
             sel (!z33)
              (some (.inr ((-1), (-1), 13)))
              (M_r31_Where_L1 a0 a1 z21 k30 (IntKind.i64.wrap (v29 + 1)))))
           (M_r31_Where_L1 a0 a1 z21 k30 (IntKind.i64.wrap (v29 + 1)))))
        (M_r31_Where_L1 a0 a1 z21 k30 (IntKind.i64.wrap (v29 + 1)))))
     (some (.inl ()))
def M_r31_Where_L2 (a0 : GTask) (a1 : GCertificate) (v71 : Int) (y84 : Nogood) : Nat → Int → Option (Unit ⊕ (Int × Int × Int))
  | 0, _ => none
  | k89 + 1, v88 =>
    sel (decide (v88 < ((a0.Ops.map cGOp).length : Int)))
     (ob1 (M_r31_open a0 a1 y84 v88) (fun z90 =>
       sel z90
        (some (.inr (v71, v88, 19)))
        (M_r31_Where_L2 a0 a1 v71 y84 k89 (IntKind.i64.wrap (v88 + 1)))))
     (some (.inl ()))
def M_r31_Where_L3 (a0 : GTask) (a1 : GCertificate) : Nat → Int → Option (Int × Int × Int)
  | 0, _ => none
  | k72 + 1, v71 =>
    sel (decide (v71 < ((a1.Nogoods.map cN).length : Int)))
     (ob1 (ix a1.Nogoods v71 (fun y84 =>
        M_r31_Where_L2 a0 a1 v71 y84 ((((a0.Ops.map cGOp).length : Int)).toNat + 1) 0) : Option (Unit ⊕ (Int × Int × Int)))
       (osum
       (fun _ => M_r31_Where_L3 a0 a1 k72 (IntKind.i64.wrap (v71 + 1)))
       (fun (r80, r81, r82) => some (r80, r81, r82))))
     (some ((-1), (-1), 0))
def M_r31_Where (a0 : GTask) (a1 : GCertificate) : Option (Int × Int × Int) :=
  ob1 (M_r05_Check a0) (fun z1 =>
   sel (z1 != 0)
    (some ((-1), (-1), z1))
    (ob1 (M_r30_Proper a0.Vars a1) (fun z2 =>
      sel (z2 != 0)
       (some ((-1), (-1), z2))
       (ob1 (M_r31_claims a1 a0.Init 1099511627776) (fun z3 =>
         sel z3
          (some ((-1), (-1), 20))
          (ob1 (ob1 (M_b_States a0.Vars) (fun z21 =>
             M_r31_Where_L1 a0 a1 z21 ((((z21.map cL_cI).length : Int)).toNat + 1) 0) : Option (Unit ⊕ (Int × Int × Int)))
            (osum
            (fun _ => M_r31_Where_L3 a0 a1 ((((a1.Nogoods.map cN).length : Int)).toNat + 1) 0)
            (fun (r17, r18, r19) => some (r17, r18, r19)))))))))
set_option maxHeartbeats 16000000 in
set_option maxRecDepth 100000 in
theorem A_r31_Where (a0 : GTask) (a1 : GCertificate) {r1 : Int} {r2 : Int} {r3 : Int} (h : M_r31_Where a0 a1 = some (r1, r2, r3)) : ACall cx 13 [.agg [.sl 1 (a0.Vars.map cI), .sl 1 (a0.Init.map cI), .sl 2 (a0.Goal.map cF), .sl 4 (a0.Ops.map cGOp)], .agg [.c (.int .i64 a1.Bound), .sl 2 (a1.Nogoods.map cN)]] (.tup [.c (.int .i64 r1), .c (.int .i64 r2), .c (.int .i64 r3)]) := by
  refine aOf Tryz.func13 rfl (by decide) rfl (Nat.le_of_ble_eq_true rfl) ?_; intro _; unfold M_r31_Where at h; refine aSq ?_; refine aRg ?_; intro _; refine dr_XDVer ?_; refine aSq ?_; refine aSq ?_; refine aRg ?_; intro _; obtain ⟨z1, u1, h⟩ := ob1_ok h; refine cl_XDVer rfl (A_r05_Check a0 u1) ?_; intro _; refine dr_XDVer ?_; refine aSq ?_; refine aRg ?_; intro _; refine dr_XDVer ?_; refine aCd ?_; intro _; refine spl h (fun c2 h => ?_) (fun c2 h => ?_)
  · refine aSq ?_; refine aRg ?_; intro _; refine dr_XDVer ?_; refine aRt ?_; intro _; obtain ⟨rfl, rfl, rfl⟩ := inj3 h; exact ca_XDVer
  · refine aSk ?_; refine aSq ?_; refine aSq ?_; refine aRg ?_; intro _; obtain ⟨z2, u3, h⟩ := ob1_ok h; refine cl_XDVer rfl (A_r30_Proper a0.Vars a1 u3) ?_; intro _; refine dr_XDVer ?_; refine aSq ?_; refine aRg ?_; intro _; refine dr_XDVer ?_; refine aCd ?_; intro _; refine spl h (fun c4 h => ?_) (fun c4 h => ?_)
    · refine aSq ?_; refine aRg ?_; intro _; refine dr_XDVer ?_; refine aRt ?_; intro _; obtain ⟨rfl, rfl, rfl⟩ := inj3 h; exact ca_XDVer
    · refine aSk ?_; refine aSq ?_; refine aSq ?_; refine aRg ?_; intro _; obtain ⟨z3, u5, h⟩ := ob1_ok h; refine cl_XDVer rfl (A_r31_claims a1 a0.Init 1099511627776 u5) ?_; intro _; refine dr_XDVer ?_; refine aCd ?_; intro _; refine spl h (fun c6 h => ?_) (fun c6 h => ?_)
      · refine aSq ?_; refine aRg ?_; intro _; refine dr_XDVer ?_; refine aRt ?_; intro _; obtain ⟨rfl, rfl, rfl⟩ := inj3 h; exact ca_XDVer
      · refine aSk ?_; obtain ⟨o7, h, hK8⟩ := ob1_ok h; refine awp_cut (α := Unit) (fun _ => mkS 77 [(2, .ptr 2 0 0 0), (3, .ptr 3 0 0 0)] [(2, ⟨26, 4, true, [[.sl 1 (a0.Vars.map cI), .sl 1 (a0.Init.map cI), .sl 2 (a0.Goal.map cF), .sl 4 (a0.Ops.map cGOp)]]⟩), (3, ⟨29, 2, true, [[.c (.int .i64 a1.Bound), .sl 2 (a1.Nogoods.map cN)]]⟩)]) (fun v => o7 = (.inl v)) ?_ ?_
        · refine aSq ?_; refine aRg ?_; intro _; obtain ⟨z21, u9, h⟩ := ob1_ok h; refine cl_XDVer rfl (A_b_States a0.Vars u9) ?_; intro _; refine dr_XDVer ?_; refine aBk ?_; refine awp_loop (α := Nat × Int) (fun x => mkS 77 [(2, .ptr 2 0 0 0), (3, .ptr 3 0 0 0), (32, .sl 1 (z21.map cL_cI)), (33, .c (.int .i64 ((z21.map cL_cI).length : Int))), (34, .c (.int .i64 x.2))] [(2, ⟨26, 4, true, [[.sl 1 (a0.Vars.map cI), .sl 1 (a0.Init.map cI), .sl 2 (a0.Goal.map cF), .sl 4 (a0.Ops.map cGOp)]]⟩), (3, ⟨29, 2, true, [[.c (.int .i64 a1.Bound), .sl 2 (a1.Nogoods.map cN)]]⟩)]) (fun x => M_r31_Where_L1 a0 a1 z21 x.1 x.2 = some o7) (fun x => x.1) ((((z21.map cL_cI).length : Int)).toNat + 1, 0) h ?_ ?_
          · exact ca_XDVer
          · intro x10 h; intro _; obtain ⟨k30, m11, h⟩ := succ_of (f := fun n => M_r31_Where_L1 a0 a1 z21 n x10.2) rfl h; replace h : M_r31_Where_L1 a0 a1 z21 (k30 + 1) x10.2 = some o7 := h; rw [M_r31_Where_L1] at h; refine aSq ?_; refine aRg ?_; intro _; refine dr_XDVer ?_; refine aSq ?_; refine aCd ?_; intro _; refine spl h (fun c12 h => ?_) (fun c12 h => ?_)
            · refine aSk ?_; refine aSq ?_; refine aBk ?_; refine aSq ?_; refine aRg ?_; intro _; obtain ⟨y31, w13, q14, h⟩ := ix_ok h; refine Exists.intro (cL_cI y31) (And.intro (map_at' w13) ?_); intro _; refine pr_XDVer ?_; refine dr_XDVer ?_; refine aSq ?_; refine aRg ?_; intro _; refine spl h (fun c15 h => ?_) (fun c15 h => ?_)
              · intro _; obtain ⟨z32, u16, h⟩ := ob1_ok h; refine cl_XDVer rfl (A_b_Holds a0.Goal y31 u16) ?_; intro _; refine spl h (fun c17 h => ?_) (fun c17 h => ?_)
                · intro _; obtain ⟨z33, u18, h⟩ := ob1_ok h; refine cl_XDVer rfl (A_r31_claims a1 y31 0 u18) ?_; intro _; refine dr_XDVer ?_; refine aCd ?_; intro _; refine spl h (fun c19 h => ?_) (fun c19 h => ?_)
                  · refine aSq ?_; refine aRg ?_; intro _; refine dr_XDVer ?_; refine aRt ?_; have j20 := Option.some.inj h; subst j20; replace h := (osum_r hK8); intro _; obtain ⟨rfl, rfl, rfl⟩ := inj3 h; exact ca_XDVer
                  · refine aSk ?_; refine aRg ?_; intro _; refine dr_XDVer ?_; refine ⟨(k30, (IntKind.i64.wrap (x10.2 + 1))), h, ltS m11, ?_⟩; exact ca_XDVer
                · intro _; refine dr_XDVer ?_; refine aCd ?_; intro _; refine litF ?_; refine aSk ?_; refine aRg ?_; intro _; refine dr_XDVer ?_; refine ⟨(k30, (IntKind.i64.wrap (x10.2 + 1))), h, ltS m11, ?_⟩; exact ca_XDVer
              · intro _; refine dr_XDVer ?_; refine aCd ?_; intro _; refine litF ?_; refine aSk ?_; refine aRg ?_; intro _; refine dr_XDVer ?_; refine ⟨(k30, (IntKind.i64.wrap (x10.2 + 1))), h, ltS m11, ?_⟩; exact ca_XDVer
            · refine aEx ?_; refine ⟨(), (Option.some.inj h).symm, ?_⟩; exact ca_XDVer
        · rintro _ ho; have ho := ho.symm; subst ho; intro _; replace h := (osum_l hK8); refine aSq ?_; refine aSq ?_; refine aRg ?_; intro _; refine dr_XDVer ?_; refine aBk ?_; refine awp_loop (α := Nat × Int) (fun x => mkS 77 [(2, .ptr 2 0 0 0), (3, .ptr 3 0 0 0), (55, .sl 2 (a1.Nogoods.map cN)), (56, .c (.int .i64 ((a1.Nogoods.map cN).length : Int))), (57, .c (.int .i64 x.2))] [(2, ⟨26, 4, true, [[.sl 1 (a0.Vars.map cI), .sl 1 (a0.Init.map cI), .sl 2 (a0.Goal.map cF), .sl 4 (a0.Ops.map cGOp)]]⟩), (3, ⟨29, 2, true, [[.c (.int .i64 a1.Bound), .sl 2 (a1.Nogoods.map cN)]]⟩)]) (fun x => M_r31_Where_L3 a0 a1 x.1 x.2 = some (r1, r2, r3)) (fun x => x.1) ((((a1.Nogoods.map cN).length : Int)).toNat + 1, 0) h ?_ ?_
          · exact ca_XDVer
          · intro x21 h; intro _; obtain ⟨k72, m22, h⟩ := succ_of (f := fun n => M_r31_Where_L3 a0 a1 n x21.2) rfl h; replace h : M_r31_Where_L3 a0 a1 (k72 + 1) x21.2 = some (r1, r2, r3) := h; rw [M_r31_Where_L3] at h; refine aSq ?_; refine aRg ?_; intro _; refine dr_XDVer ?_; refine aSq ?_; refine aCd ?_; intro _; refine spl h (fun c23 h => ?_) (fun c23 h => ?_)
            · refine aSk ?_; obtain ⟨o24, h, hK25⟩ := ob1_ok h; refine awp_cut (α := Unit) (fun _ => mkS 77 [(2, .ptr 2 0 0 0), (3, .ptr 3 0 0 0), (55, .sl 2 (a1.Nogoods.map cN)), (56, .c (.int .i64 ((a1.Nogoods.map cN).length : Int))), (57, .c (.int .i64 x21.2))] [(2, ⟨26, 4, true, [[.sl 1 (a0.Vars.map cI), .sl 1 (a0.Init.map cI), .sl 2 (a0.Goal.map cF), .sl 4 (a0.Ops.map cGOp)]]⟩), (3, ⟨29, 2, true, [[.c (.int .i64 a1.Bound), .sl 2 (a1.Nogoods.map cN)]]⟩)]) (fun v => o24 = (.inl v)) ?_ ?_
              · refine aBk ?_; refine aSq ?_; refine aRg ?_; intro _; obtain ⟨y84, w26, q27, h⟩ := ix_ok h; refine Exists.intro (cN y84) (And.intro (map_at' w26) ?_); intro _; refine pr_XDVer ?_; refine dr_XDVer ?_; refine aSq ?_; refine aRg ?_; intro _; refine dr_XDVer ?_; refine aBk ?_; refine awp_loop (α := Nat × Int) (fun x => mkS 77 [(2, .ptr 2 0 0 0), (3, .ptr 3 0 0 0), (11, .c (.int .i64 x21.2)), (12, .ptr 12 0 0 0), (55, .sl 2 (a1.Nogoods.map cN)), (56, .c (.int .i64 ((a1.Nogoods.map cN).length : Int))), (57, .c (.int .i64 x21.2)), (64, .c (.int .i64 ((a0.Ops.map cGOp).length : Int))), (65, .c (.int .i64 x.2))] [(2, ⟨26, 4, true, [[.sl 1 (a0.Vars.map cI), .sl 1 (a0.Init.map cI), .sl 2 (a0.Goal.map cF), .sl 4 (a0.Ops.map cGOp)]]⟩), (3, ⟨29, 2, true, [[.c (.int .i64 a1.Bound), .sl 2 (a1.Nogoods.map cN)]]⟩), (12, ⟨51, 2, true, [[.sl 2 (y84.1.map cF), .c (.int .i64 y84.2)]]⟩)]) (fun x => M_r31_Where_L2 a0 a1 x21.2 y84 x.1 x.2 = some o24) (fun x => x.1) ((((a0.Ops.map cGOp).length : Int)).toNat + 1, 0) h ?_ ?_
                · exact ca_XDVer
                · intro x28 h; intro _; obtain ⟨k89, m29, h⟩ := succ_of (f := fun n => M_r31_Where_L2 a0 a1 x21.2 y84 n x28.2) rfl h; replace h : M_r31_Where_L2 a0 a1 x21.2 y84 (k89 + 1) x28.2 = some o24 := h; rw [M_r31_Where_L2] at h; refine aSq ?_; refine aRg ?_; intro _; refine dr_XDVer ?_; refine aSq ?_; refine aCd ?_; intro _; refine spl h (fun c30 h => ?_) (fun c30 h => ?_)
                  · refine aSk ?_; refine aSq ?_; refine aBk ?_; refine aSq ?_; refine aRg ?_; intro _; refine dr_XDVer ?_; refine aSq ?_; refine aRg ?_; intro _; obtain ⟨z90, u31, h⟩ := ob1_ok h; refine cl_XDVer rfl (A_r31_open a0 a1 y84 x28.2 u31) ?_; intro _; refine dr_XDVer ?_; refine aCd ?_; intro _; refine spl h (fun c32 h => ?_) (fun c32 h => ?_)
                    · refine aSq ?_; refine aRg ?_; intro _; refine dr_XDVer ?_; refine aRt ?_; have j33 := Option.some.inj h; subst j33; replace h := (osum_r hK25); intro _; obtain ⟨rfl, rfl, rfl⟩ := inj3 h; exact ca_XDVer
                    · refine aSk ?_; refine aRg ?_; intro _; refine dr_XDVer ?_; refine ⟨(k89, (IntKind.i64.wrap (x28.2 + 1))), h, ltS m29, ?_⟩; exact ca_XDVer
                  · refine aEx ?_; refine ⟨(), (Option.some.inj h).symm, ?_⟩; exact ca_XDVer
              · rintro _ ho; have ho := ho.symm; subst ho; intro _; replace h := (osum_l hK25); refine aRg ?_; intro _; refine dr_XDVer ?_; refine ⟨(k72, (IntKind.i64.wrap (x21.2 + 1))), h, ltS m22, ?_⟩; exact ca_XDVer
            · refine aEx ?_; refine aSq ?_; refine aRg ?_; intro _; refine dr_XDVer ?_; refine aRt ?_; intro _; obtain ⟨rfl, rfl, rfl⟩ := inj3 h; exact ca_XDVer
def M_l31_CheckerVerifies (g : Nat) (a0 : GTask) (a1 : GCertificate) : Option (Bool) :=
  ob1 (ob1 (M_l31_gentle a0) (fun z9 =>
    sel (!z9)
     (ob1 (M_l31_awake g) (fun z14 =>
       some (.inr z14)))
     (ob1 (M_l31_few a1) (fun z10 =>
       sel (!z10)
        (ob1 (M_l31_awake g) (fun z13 =>
          some (.inr z13)))
        (ob1 (M_l31_awake g) (fun z11 =>
          sel (!z11)
           (ob1 (M_l31_awake g) (fun z12 =>
             some (.inr z12)))
           (some (.inl ()))))))) : Option (Unit ⊕ Bool))
   (osum
   (fun _ => ob3 (M_r31_Where a0 a1) (fun z15 z16 z17 =>
      ob3 (M_checker_Where g a0 a1 1048576) (fun z18 z19 z20 =>
       ob1 (M_checker_Verify g a0 a1 1048576) (fun z21 =>
        ob1 (M_b_Num z21) (fun z22 =>
         sel (z22 == z17)
          (ob1 (M_b_Num z20) (fun z23 =>
            sel (z23 == z17)
             (sel (z18 == z15)
               (some (z19 == z16))
               (some false))
             (some false)))
          (some false))))))
   (fun r7 => some r7))
set_option maxHeartbeats 16000000 in
set_option maxRecDepth 100000 in
theorem A_l31_CheckerVerifies (g : Nat) (a0 : GTask) (a1 : GCertificate) {r1 : Bool} (h : M_l31_CheckerVerifies g a0 a1 = some r1) : ACall cx 3 [.agg [.sl 1 (a0.Vars.map cI), .sl 1 (a0.Init.map cI), .sl 2 (a0.Goal.map cF), .sl 4 (a0.Ops.map cGOp)], .agg [.c (.int .i64 a1.Bound), .sl 2 (a1.Nogoods.map cN)]] (.c (.bool r1)) := by
  refine aOf Tryz.func3 rfl (by decide) rfl (Nat.le_of_ble_eq_true rfl) ?_; intro _; unfold M_l31_CheckerVerifies at h; refine aSq ?_; refine aRg ?_; intro _; refine dr_XDVer ?_; obtain ⟨o1, h, hK2⟩ := ob1_ok h; refine awp_cut (α := Unit) (fun _ => mkS 60 [(2, .ptr 2 0 0 0), (3, .ptr 3 0 0 0)] [(2, ⟨26, 4, true, [[.sl 1 (a0.Vars.map cI), .sl 1 (a0.Init.map cI), .sl 2 (a0.Goal.map cF), .sl 4 (a0.Ops.map cGOp)]]⟩), (3, ⟨29, 2, true, [[.c (.int .i64 a1.Bound), .sl 2 (a1.Nogoods.map cN)]]⟩)]) (fun v => o1 = (.inl v)) ?_ ?_
  · refine aSq ?_; refine aRg ?_; intro _; obtain ⟨z9, u3, h⟩ := ob1_ok h; refine cl_XDVer rfl (A_l31_gentle a0 u3) ?_; intro _; refine spf h (fun c4 h => ?_) (fun c4 h => ?_)
    · intro _; obtain ⟨z10, u5, h⟩ := ob1_ok h; refine cl_XDVer rfl (A_l31_few a1 u5) ?_; intro _; refine spf h (fun c6 h => ?_) (fun c6 h => ?_)
      · intro _; obtain ⟨z11, u7, h⟩ := ob1_ok h; refine cl_XDVer rfl (A_l31_awake g u7) ?_; intro _; refine dr_XDVer ?_; refine aCd ?_; intro _; refine spl h (fun c8 h => ?_) (fun c8 h => ?_)
        · refine aSq ?_; refine aRg ?_; intro _; obtain ⟨z12, u9, h⟩ := ob1_ok h; refine cl_XDVer rfl (A_l31_awake g u9) ?_; intro _; refine dr_XDVer ?_; refine aRt ?_; have j10 := Option.some.inj h; subst j10; replace h := (osum_r hK2); intro _; obtain rfl := inj1 h; exact ca_XDVer
        · refine aSk ?_; refine ⟨(), (Option.some.inj h).symm, ?_⟩; exact ca_XDVer
      · intro _; refine dr_XDVer ?_; refine aCd ?_; intro _; refine litT ?_; refine aSq ?_; refine aRg ?_; intro _; obtain ⟨z13, u11, h⟩ := ob1_ok h; refine cl_XDVer rfl (A_l31_awake g u11) ?_; intro _; refine dr_XDVer ?_; refine aRt ?_; have j12 := Option.some.inj h; subst j12; replace h := (osum_r hK2); intro _; obtain rfl := inj1 h; exact ca_XDVer
    · intro _; refine dr_XDVer ?_; refine aCd ?_; intro _; refine litT ?_; refine aSq ?_; refine aRg ?_; intro _; obtain ⟨z14, u13, h⟩ := ob1_ok h; refine cl_XDVer rfl (A_l31_awake g u13) ?_; intro _; refine dr_XDVer ?_; refine aRt ?_; have j14 := Option.some.inj h; subst j14; replace h := (osum_r hK2); intro _; obtain rfl := inj1 h; exact ca_XDVer
  · rintro _ ho; have ho := ho.symm; subst ho; intro _; replace h := (osum_l hK2); refine aSq ?_; refine aRg ?_; intro _; obtain ⟨z15, z16, z17, u15, h⟩ := ob3_ok h; refine cl_XDVer rfl (A_r31_Where a0 a1 u15) ?_; intro _; refine dr_XDVer ?_; refine aSq ?_; refine aRg ?_; intro _; obtain ⟨z18, z19, z20, u16, h⟩ := ob3_ok h; refine cl_XDVer rfl (A_checker_Where g a0 a1 1048576 u16) ?_; intro _; refine dr_XDVer ?_; refine aSq ?_; refine aRg ?_; intro _; obtain ⟨z21, u17, h⟩ := ob1_ok h; refine cl_XDVer rfl (A_checker_Verify g a0 a1 1048576 u17) ?_; intro _; obtain ⟨z22, u18, h⟩ := ob1_ok h; refine cl_XDVer rfl (A_b_Num z21 u18) ?_; intro _; refine spl h (fun c19 h => ?_) (fun c19 h => ?_)
    · intro _; obtain ⟨z23, u20, h⟩ := ob1_ok h; refine cl_XDVer rfl (A_b_Num z20 u20) ?_; intro _; refine spl h (fun c21 h => ?_) (fun c21 h => ?_)
      · intro _; refine spl h (fun c22 h => ?_) (fun c22 h => ?_)
        · intro _; refine dr_XDVer ?_; refine aRt ?_; intro _; obtain rfl := inj1 h; exact ca_XDVer
        · intro _; refine dr_XDVer ?_; refine aRt ?_; intro _; obtain rfl := inj1 h; exact ca_XDVer
      · intro _; refine dr_XDVer ?_; refine aRt ?_; intro _; obtain rfl := inj1 h; exact ca_XDVer
    · intro _; refine dr_XDVer ?_; refine aRt ?_; intro _; obtain rfl := inj1 h; exact ca_XDVer
end Go.Proofs.YtcpajbglcgbolaaGreat.Am
/- Range loops of the models as recursions. -/
namespace Go.Proofs.YtcpajbglcgbolaaGreat.Am
def M_r31_claims_L1_B (_ : GCertificate) (a1 : List Int) (a2 : Int) (_y8 : Nogood) (_ : Int) : Unit → (Unit → Option (Bool)) → Option (Bool) := fun _ rc => ixv _y8 (fun y8 =>
       sel (decide (y8.2 ≤ a2))
        (ob1 (M_b_Holds y8.1 a1) (fun z9 =>
          sel z9
           (some true)
           (rc ())))
        (rc ()))
def M_r31_claims_L1_E (_ : GCertificate) (_ : List Int) (_ : Int) : Unit → Option (Bool) := fun _ => some false
theorem M_r31_claims_L1_rg (a0 : GCertificate) (a1 : List Int) (a2 : Int) (hl : a0.Nogoods.length < 9223372036854775807) : ∀ (k n : Nat) , n ≤ a0.Nogoods.length → a0.Nogoods.length < k + n → M_r31_claims_L1 a0 a1 a2 k (n : Int) = Rg (M_r31_claims_L1_B a0 a1 a2) (M_r31_claims_L1_E a0 a1 a2) (a0.Nogoods.drop n) n () := by
  intro k n 
  refine rg_of (L := fun k i (p : Unit) => M_r31_claims_L1 a0 a1 a2 k i) hl (fun k n p y hy hn => ?_) (fun k p => ?_) k n ()
  · have h1 := lt_some hy
    have h2 := w64s hn
    first | (simp only [M_r31_claims_L1, M_r31_claims_L1_B, List.length_map, decide_lt h1, sel, ix_at hy, ixv, h2]; done) | (simp only [List.length_map] at h1 hy; simp only [M_r31_claims_L1, M_r31_claims_L1_B, List.length_map, decide_lt h1, sel, ix_at hy, ixv, h2]; done)
  · simp only [M_r31_claims_L1, M_r31_claims_L1_E, List.length_map, decide_ge, sel]
theorem M_r31_claims_L1_eq (a0 : GCertificate) (a1 : List Int) (a2 : Int)  (hl : a0.Nogoods.length < 9223372036854775807) : M_r31_claims_L1 a0 a1 a2 (((a0.Nogoods.map cN).length : Int).toNat + 1) 0 = Rg (M_r31_claims_L1_B a0 a1 a2) (M_r31_claims_L1_E a0 a1 a2) a0.Nogoods 0 () := by
  have h := M_r31_claims_L1_rg a0 a1 a2 hl (a0.Nogoods.length + 1) 0  (Nat.zero_le _) (by omega)
  rw [List.length_map, Int.toNat_natCast]
  exact h
def M_r31_open_L1_B (a0 : GTask) (a1 : GCertificate) (a2 : Nogood) (a3 : Int) (v2 : Int) (_ : List (List Int)) (_y19 : List Int) (_ : Int) : Unit → (Unit → Option (Bool)) → Option (Bool) := fun _ rc => ixv _y19 (fun y19 =>
       ob2 (M_b_Apply a0 y19 a3) (fun z20 z21 =>
        sel z21
         (ob1 (M_b_Holds a2.1 z20) (fun z22 =>
           sel z22
            (ob1 (M_r31_claims a1 y19 v2) (fun z23 =>
              sel (!z23)
               (some true)
               (rc ())))
            (rc ())))
         (rc ())))
def M_r31_open_L1_E (_ : GTask) (_ : GCertificate) (_ : Nogood) (_ : Int) (_ : Int) (_ : List (List Int)) : Unit → Option (Bool) := fun _ => some false
theorem M_r31_open_L1_rg (a0 : GTask) (a1 : GCertificate) (a2 : Nogood) (a3 : Int) (v2 : Int) (z5 : List (List Int)) (hl : z5.length < 9223372036854775807) : ∀ (k n : Nat) , n ≤ z5.length → z5.length < k + n → M_r31_open_L1 a0 a1 a2 a3 v2 z5 k (n : Int) = Rg (M_r31_open_L1_B a0 a1 a2 a3 v2 z5) (M_r31_open_L1_E a0 a1 a2 a3 v2 z5) (z5.drop n) n () := by
  intro k n 
  refine rg_of (L := fun k i (p : Unit) => M_r31_open_L1 a0 a1 a2 a3 v2 z5 k i) hl (fun k n p y hy hn => ?_) (fun k p => ?_) k n ()
  · have h1 := lt_some hy
    have h2 := w64s hn
    first | (simp only [M_r31_open_L1, M_r31_open_L1_B, List.length_map, decide_lt h1, sel, ix_at hy, ixv, h2]; done) | (simp only [List.length_map] at h1 hy; simp only [M_r31_open_L1, M_r31_open_L1_B, List.length_map, decide_lt h1, sel, ix_at hy, ixv, h2]; done)
  · simp only [M_r31_open_L1, M_r31_open_L1_E, List.length_map, decide_ge, sel]
theorem M_r31_open_L1_eq (a0 : GTask) (a1 : GCertificate) (a2 : Nogood) (a3 : Int) (v2 : Int) (z5 : List (List Int))  (hl : z5.length < 9223372036854775807) : M_r31_open_L1 a0 a1 a2 a3 v2 z5 (((z5.map cL_cI).length : Int).toNat + 1) 0 = Rg (M_r31_open_L1_B a0 a1 a2 a3 v2 z5) (M_r31_open_L1_E a0 a1 a2 a3 v2 z5) z5 0 () := by
  have h := M_r31_open_L1_rg a0 a1 a2 a3 v2 z5 hl (z5.length + 1) 0  (Nat.zero_le _) (by omega)
  rw [List.length_map, Int.toNat_natCast]
  exact h
def M_r31_Where_L1_B (a0 : GTask) (a1 : GCertificate) (_ : List (List Int)) (_y31 : List Int) (_ : Int) : Unit → (Unit → Option (Unit ⊕ (Int × Int × Int))) → Option (Unit ⊕ (Int × Int × Int)) := fun _ rc => ixv _y31 (fun y31 =>
       sel (a1.Bound != 0)
        (ob1 (M_b_Holds a0.Goal y31) (fun z32 =>
          sel z32
           (ob1 (M_r31_claims a1 y31 0) (fun z33 =>
             sel (!z33)
              (some (.inr ((-1), (-1), 13)))
              (rc ())))
           (rc ())))
        (rc ()))
def M_r31_Where_L1_E (_ : GTask) (_ : GCertificate) (_ : List (List Int)) : Unit → Option (Unit ⊕ (Int × Int × Int)) := fun _ => some (.inl ())
theorem M_r31_Where_L1_rg (a0 : GTask) (a1 : GCertificate) (z21 : List (List Int)) (hl : z21.length < 9223372036854775807) : ∀ (k n : Nat) , n ≤ z21.length → z21.length < k + n → M_r31_Where_L1 a0 a1 z21 k (n : Int) = Rg (M_r31_Where_L1_B a0 a1 z21) (M_r31_Where_L1_E a0 a1 z21) (z21.drop n) n () := by
  intro k n 
  refine rg_of (L := fun k i (p : Unit) => M_r31_Where_L1 a0 a1 z21 k i) hl (fun k n p y hy hn => ?_) (fun k p => ?_) k n ()
  · have h1 := lt_some hy
    have h2 := w64s hn
    first | (simp only [M_r31_Where_L1, M_r31_Where_L1_B, List.length_map, decide_lt h1, sel, ix_at hy, ixv, h2]; done) | (simp only [List.length_map] at h1 hy; simp only [M_r31_Where_L1, M_r31_Where_L1_B, List.length_map, decide_lt h1, sel, ix_at hy, ixv, h2]; done)
  · simp only [M_r31_Where_L1, M_r31_Where_L1_E, List.length_map, decide_ge, sel]
theorem M_r31_Where_L1_eq (a0 : GTask) (a1 : GCertificate) (z21 : List (List Int))  (hl : z21.length < 9223372036854775807) : M_r31_Where_L1 a0 a1 z21 (((z21.map cL_cI).length : Int).toNat + 1) 0 = Rg (M_r31_Where_L1_B a0 a1 z21) (M_r31_Where_L1_E a0 a1 z21) z21 0 () := by
  have h := M_r31_Where_L1_rg a0 a1 z21 hl (z21.length + 1) 0  (Nat.zero_le _) (by omega)
  rw [List.length_map, Int.toNat_natCast]
  exact h
def M_r31_Where_L2_B (a0 : GTask) (a1 : GCertificate) (v71 : Int) (y84 : Nogood) (v88 : Int) : Unit → (Unit → Option (Unit ⊕ (Int × Int × Int))) → Option (Unit ⊕ (Int × Int × Int)) := fun _ rc => ob1 (M_r31_open a0 a1 y84 v88) (fun z90 =>
       sel z90
        (some (.inr (v71, v88, 19)))
        (rc ()))
def M_r31_Where_L2_E (_ : GTask) (_ : GCertificate) (_ : Int) (_ : Nogood) : Unit → Option (Unit ⊕ (Int × Int × Int)) := fun _ => some (.inl ())
theorem M_r31_Where_L2_rg (a0 : GTask) (a1 : GCertificate) (v71 : Int) (y84 : Nogood) {m : Nat} (hm : ((a0.Ops.map cGOp).length : Int) = (m : Int)) (hl : m < 9223372036854775807) : ∀ (k n : Nat) , n ≤ m → m < k + n → M_r31_Where_L2 a0 a1 v71 y84 k (n : Int) = Rn (M_r31_Where_L2_B a0 a1 v71 y84) (M_r31_Where_L2_E a0 a1 v71 y84) (m - n) n () := by
  intro k n 
  refine rn_of (L := fun k i (p : Unit) => M_r31_Where_L2 a0 a1 v71 y84 k i) hl (fun k n p hn => ?_) (fun k p => ?_) k n ()
  · have h2 := w64s (Nat.lt_trans hn hl)
    simp only [M_r31_Where_L2, M_r31_Where_L2_B, hm, decide_lt hn, sel, h2]
  · simp only [M_r31_Where_L2, M_r31_Where_L2_E, hm, decide_ge, sel]
theorem M_r31_Where_L2_eq (a0 : GTask) (a1 : GCertificate) (v71 : Int) (y84 : Nogood)  {m : Nat} (hm : ((a0.Ops.map cGOp).length : Int) = (m : Int)) (hl : m < 9223372036854775807) : M_r31_Where_L2 a0 a1 v71 y84 ((((a0.Ops.map cGOp).length : Int)).toNat + 1) 0 = Rn (M_r31_Where_L2_B a0 a1 v71 y84) (M_r31_Where_L2_E a0 a1 v71 y84) m 0 () := by
  have h := M_r31_Where_L2_rg a0 a1 v71 y84 hm hl (m + 1) 0  (Nat.zero_le _) (by omega)
  have e : (((a0.Ops.map cGOp).length : Int)).toNat = m := by rw [hm, Int.toNat_natCast]
  rw [e]
  exact h
def M_r31_Where_L3_B (a0 : GTask) (a1 : GCertificate) (_y84 : Nogood) (v71 : Int) : Unit → (Unit → Option (Int × Int × Int)) → Option (Int × Int × Int) := fun _ rc => ob1 (ixv _y84 (fun y84 =>
        M_r31_Where_L2 a0 a1 v71 y84 ((((a0.Ops.map cGOp).length : Int)).toNat + 1) 0) : Option (Unit ⊕ (Int × Int × Int)))
       (osum
       (fun _ => rc ())
       (fun (r80, r81, r82) => some (r80, r81, r82)))
def M_r31_Where_L3_E (_ : GTask) (_ : GCertificate) : Unit → Option (Int × Int × Int) := fun _ => some ((-1), (-1), 0)
theorem M_r31_Where_L3_rg (a0 : GTask) (a1 : GCertificate) (hl : a1.Nogoods.length < 9223372036854775807) : ∀ (k n : Nat) , n ≤ a1.Nogoods.length → a1.Nogoods.length < k + n → M_r31_Where_L3 a0 a1 k (n : Int) = Rg (M_r31_Where_L3_B a0 a1) (M_r31_Where_L3_E a0 a1) (a1.Nogoods.drop n) n () := by
  intro k n 
  refine rg_of (L := fun k i (p : Unit) => M_r31_Where_L3 a0 a1 k i) hl (fun k n p y hy hn => ?_) (fun k p => ?_) k n ()
  · have h1 := lt_some hy
    have h2 := w64s hn
    first | (simp only [M_r31_Where_L3, M_r31_Where_L3_B, List.length_map, decide_lt h1, sel, ix_at hy, ixv, h2]; done) | (simp only [List.length_map] at h1 hy; simp only [M_r31_Where_L3, M_r31_Where_L3_B, List.length_map, decide_lt h1, sel, ix_at hy, ixv, h2]; done)
  · simp only [M_r31_Where_L3, M_r31_Where_L3_E, List.length_map, decide_ge, sel]
theorem M_r31_Where_L3_eq (a0 : GTask) (a1 : GCertificate)  (hl : a1.Nogoods.length < 9223372036854775807) : M_r31_Where_L3 a0 a1 (((a1.Nogoods.map cN).length : Int).toNat + 1) 0 = Rg (M_r31_Where_L3_B a0 a1) (M_r31_Where_L3_E a0 a1) a1.Nogoods 0 () := by
  have h := M_r31_Where_L3_rg a0 a1 hl (a1.Nogoods.length + 1) 0  (Nat.zero_le _) (by omega)
  rw [List.length_map, Int.toNat_natCast]
  exact h
end Go.Proofs.YtcpajbglcgbolaaGreat.Am
/- Plain law: CheckerVerifies. -/
namespace Go.Proofs.YtcpajbglcgbolaaGreat.Am
open Go.RowKit
theorem claims_eq (c : GCertificate) (hc : ShC c) (s : List Int) (d : Int) : M_r31_claims c s d = some (claimsF c.Nogoods s d) := by
  have e1 := M_r31_claims_L1_eq c s d hc.list.lt
  rw [M_r31_claims, e1, rg_all (p := fun n : Nogood => !(decide (n.2 ≤ d) && holdsF s n.1)) (c := some true), M_r31_claims_L1_E, claimsF]
  · rw [show (c.Nogoods.all fun n => !(decide (n.2 ≤ d) && holdsF s n.1)) = !(c.Nogoods.any fun n => decide (n.2 ≤ d) && holdsF s n.1) from by rw [List.not_any_eq_all_not]]
    cases c.Nogoods.any fun n => decide (n.2 ≤ d) && holdsF s n.1 <;> rfl
  · intro n hn i rc
    rw [M_r31_claims_L1_B, ixv, sel_dec, holds_eq n.1 s (hc.each n hn), ob1_some]
    by_cases h : n.2 ≤ d
    · rw [if_pos h, decide_eq_true h, Bool.true_and]
      cases holdsF s n.1 <;> rfl
    · rw [if_neg h, decide_eq_false h, Bool.false_and]; rfl
theorem all_not_any {α : Type} (l : List α) (p : α → Bool) : (l.all fun x => !p x) = !l.any p := by rw [List.not_any_eq_all_not]
theorem open_eq {t : GTask} (hs : smallF t = true) {c : GCertificate} (hsc : ShC c) (hc : CertP t.Vars c) {n : Nogood} (hn : n ∈ c.Nogoods) (j : Nat) (o : GOp) (hj : t.Ops[j]? = some o) : M_r31_open t c n j = some (openF t c n o) := by
  have hgood := (small_good hs).1
  have ho := List.mem_of_getElem? hj
  have hcost := good_cost hgood ho
  have hn0 := hc.d0 n hn
  have hb1 := hc.b1
  have hal := allF_len t hs
  have hloop : ∀ d : Int, ob1 (M_b_States t.Vars) (fun z5 => M_r31_open_L1 t c n j d z5 ((((z5.map cL_cI).length : Int)).toNat + 1) 0) = some ((allF t).any fun s => inF o n.1 s && !claimsF c.Nogoods s d) := fun d => by
    rw [states_eq t hs, ob1_some, M_r31_open_L1_eq t c n j d (allF t) (by omega), rg_all (p := fun s => !(inF o n.1 s && !claimsF c.Nogoods s d)) (c := some true), M_r31_open_L1_E, all_not_any]
    · cases (allF t).any fun s => inF o n.1 s && !claimsF c.Nogoods s d <;> rfl
    · intro s hsm i rc
      have hst := stateF_st ((allF_mem t s).1 hsm)
      rw [M_r31_open_L1_B, ixv, apply_eq t hgood s hst j o hj, inF]
      cases holdsF s o.Pre with
      | false => rfl
      | true =>
        rw [if_pos rfl, ob2_some, sel_tt, holds_eq n.1 _ (hsc.each n hn), ob1_some, Bool.true_and]
        cases holdsF (nextF s o) n.1 with
        | false => rfl
        | true =>
          rw [sel_tt, claims_eq c hsc s d, ob1_some, Bool.true_and]
          cases claimsF c.Nogoods s d <;> rfl
  rw [M_r31_open, ix_at hj, sel_dec, sel_dec, openF, skipO, distO]
  by_cases h1 : c.Bound < 0
  · rw [if_pos h1, ob1_some, osum_inl, hloop, decide_eq_false (by omega), Bool.not_false, Bool.true_and, if_neg (by omega)]
  · rw [if_neg h1, wrap_eq (by omega) (by have := hc.d1 n hn (by omega); omega)]
    by_cases h2 : n.2 + o.Cost ≥ c.Bound
    · rw [if_pos h2, ob1_some, osum_inr, decide_eq_true (by omega)]; rfl
    · rw [if_neg h2, ob1_some, osum_inl, hloop, decide_eq_false (by omega), Bool.not_false, Bool.true_and, if_pos (by omega)]
theorem ref_ops {t : GTask} (hs : smallF t = true) {c : GCertificate} (hsc : ShC c) (hc : CertP t.Vars c) {n : Nogood} (hn : n ∈ c.Nogoods) (i : Int) : ∀ (l : List GOp) (m j : Nat), t.Ops.drop j = l → l.length = m →
    Rn (M_r31_Where_L2_B t c i n) (M_r31_Where_L2_E t c i n) m j () = some (match firstO t c n l j with | none => .inl () | some k => .inr (i, k, 19))
  | [], m, j, _, hm => by subst hm; rfl
  | o :: os, m, j, hdr, hm => by
    obtain ⟨hj, hd', hlt⟩ := drop_cons hdr
    obtain ⟨m, rfl⟩ : ∃ k, m = k + 1 := ⟨os.length, hm.symm⟩
    rw [Rn, M_r31_Where_L2_B, open_eq hs hsc hc hn j o hj, ob1_some, firstO]
    cases openF t c n o with
    | true => rfl
    | false => exact ref_ops hs hsc hc hn i os m (j + 1) hd' (by simpa using hm)
theorem ref_nog {t : GTask} (hs : smallF t = true) {c : GCertificate} (hsc : ShC c) (hc : CertP t.Vars c) : ∀ (l : List Nogood) (i : Int), (∀ n ∈ l, n ∈ c.Nogoods) →
    Rg (M_r31_Where_L3_B t c) (M_r31_Where_L3_E t c) l i () = some ((firstN t c l i).1, (firstN t c l i).2.1, erN (firstN t c l i).2.2)
  | [], i, _ => rfl
  | n :: ns, i, hl => by
    have hops := (small_good hs).2.2
    rw [Rg, M_r31_Where_L3_B, ixv, M_r31_Where_L2_eq t c i n (m := t.Ops.length) (by rw [List.length_map]) (by omega)]
    have e : Rn (M_r31_Where_L2_B t c i n) (M_r31_Where_L2_E t c i n) t.Ops.length 0 () = _ := ref_ops hs hsc hc (hl n (List.mem_cons_self ..)) i t.Ops t.Ops.length 0 rfl rfl
    rw [e, ob1_some, firstN]
    show osum _ _ (match firstO t c n t.Ops 0 with | none => _ | some k => _) = _
    cases hf : firstO t c n t.Ops 0 with
    | some k => rfl
    | none => exact ref_nog hs hsc hc ns (i + 1) (fun x hx => hl x (List.mem_cons_of_mem _ hx))
theorem refC_eq {t : GTask} (hs : smallF t = true) {c : GCertificate} (hsc : ShC c) (hc : CertP t.Vars c) : ob1 (M_r31_claims c t.Init 1099511627776) (fun z3 => sel z3 (some ((-1), (-1), 20)) (ob1 (ob1 (M_b_States t.Vars) (fun z21 => M_r31_Where_L1 t c z21 ((((z21.map cL_cI).length : Int)).toNat + 1) 0) : Option (Unit ⊕ (Int × Int × Int))) (osum (fun _ => M_r31_Where_L3 t c ((((c.Nogoods.map cN).length : Int)).toNat + 1) 0) (fun (r17, r18, r19) => some (r17, r18, r19))))) = some ((refC t c).1, (refC t c).2.1, erN (refC t c).2.2) := by
  have hgood := (small_good hs).1
  have hal := allF_len t hs
  have hcl : claimsF c.Nogoods t.Init 1099511627776 = c.Nogoods.any fun n => holdsF t.Init n.1 := by
    unfold claimsF
    rw [Bool.eq_iff_iff, List.any_eq_true, List.any_eq_true]
    constructor
    · rintro ⟨n, hn, h⟩
      rw [Bool.and_eq_true] at h
      exact ⟨n, hn, h.2⟩
    · rintro ⟨n, hn, h⟩
      have h1 := hc.b1
      have h2 := hc.d1 n hn
      have h3 := hc.d2 n hn
      exact ⟨n, hn, by rw [h, decide_eq_true (by omega)]; rfl⟩
  rw [claims_eq c hsc, ob1_some, hcl, refC]
  cases c.Nogoods.any fun n => holdsF t.Init n.1 with
  | true => rfl
  | false =>
    rw [sel_ff, if_neg (by decide), states_eq t hs, ob1_some, M_r31_Where_L1_eq t c (allF t) (by omega), rg_all (p := fun s => !(c.Bound != 0 && (holdsF s t.Goal && !claimsF c.Nogoods s 0))) (c := some (.inr ((-1), (-1), 13))), M_r31_Where_L1_E, all_not_any]
    · have hany : ((allF t).any fun s => c.Bound != 0 && (holdsF s t.Goal && !claimsF c.Nogoods s 0)) = (c.Bound != 0 && (allF t).any fun s => holdsF s t.Goal && !claimsF c.Nogoods s 0) := by
        cases c.Bound != 0 with
        | true => simp
        | false => simp
      rw [hany]
      cases c.Bound != 0 && (allF t).any fun s => holdsF s t.Goal && !claimsF c.Nogoods s 0 with
      | true => rfl
      | false =>
        rw [Bool.not_false, if_pos rfl, if_neg (by decide), ob1_some, osum_inl, M_r31_Where_L3_eq t c hsc.list.lt]
        exact ref_nog hs hsc hc c.Nogoods 0 (fun _ h => h)
    · intro s _ i rc
      rw [M_r31_Where_L1_B, ixv, holds_eq t.Goal s (prop_sh (good_dom hgood).len (good_goal hgood)), claims_eq c hsc, ob1_some, ob1_some]
      cases c.Bound != 0 <;> cases holdsF s t.Goal <;> cases claimsF c.Nogoods s 0 <;> rfl
theorem refF_eq {t : GTask} (ht : ShT t) (hs : smallF t = true) {c : GCertificate} (hsc : ShC c) : M_r31_Where t c = some ((refF t c).1, (refF t c).2.1, erN (refF t c).2.2) := by
  have hck := (good_check t).1 (small_good hs).1
  rw [M_r31_Where, ref_check t ht, ob1_some, refF, hck]
  show sel false _ _ = _
  rw [sel_ff, ref_proper t.Vars c hsc, ob1_some]
  cases hp : properF t.Vars c with
  | no e =>
    have he : e ≠ 0 := by
      unfold properF at hp
      cases hcf : certF c with
      | no e2 => rw [hcf] at hp; injection hp with hp; subst hp; exact certF_code hcf
      | nil =>
        rw [hcf] at hp
        simp only at hp
        split at hp
        · cases hp
        · injection hp with hp; omega
    rw [show (erN (Er.no e) != 0) = true from by simp [erN, he], sel_tt]
  | nil => exact refC_eq hs hsc ((properF_nil t.Vars c).1 hp)
theorem verifies_true (g : Nat) (hg : 70 ≤ g) (t : GTask) (ht : ShT t) (c : GCertificate) (hc : ShC c) : M_l31_CheckerVerifies g t c = some true := by
  have aw := awake_eq g hg
  rw [M_l31_CheckerVerifies, aw, gentle_eq t ht, few_eq c hc]
  refine guard3' (fun hge hfe => ?_) rfl
  have h := gentle_gen hge
  have hf : c.Nogoods.length ≤ 12 := by
    unfold fewF at hfe
    simp only [Bool.and_eq_true, decide_eq_true_iff] at hfe
    exact hfe.2
  have hw := whereF_ok h hf
  have hv : verF t c 1048576 = (refF t c).2.2 := by rw [verF, hw]
  rw [osum_inl, refF_eq ht h.small hc, where_eq t ht c hc _ g hg, verify_eq t ht c hc _ g hg, hw, hv, ob3_some]
  show ob3 (some ((refF t c).1, (refF t c).2.1, (refF t c).2.2)) _ = _
  rw [ob3_some, ob1_some, num_eq, ob1_some, beq_self_eq_true, sel_tt, ob1_some, beq_self_eq_true, sel_tt, beq_self_eq_true, sel_tt, beq_self_eq_true]
end Go.Proofs.YtcpajbglcgbolaaGreat.Am
/- Opening arguments: slices of numbers, of facts, of nogoods, a certificate. -/
namespace Go.Proofs.YtcpajbglcgbolaaGreat
open Go.RowKit Go.ChangeShapes Go.WideShapes Go.Deep Go.Joins

def I64 (x : Int) : Prop := -9223372036854775808 ≤ x ∧ x ≤ 9223372036854775807
theorem I64.of {x : Int} (h : (Lit.int .i64 x).wf = true) : I64 x := by
  have := bounds_i64 h
  exact this

section
variable {H : Type} {enc : TypeId × Value → H} {P : Program} {w : World} {base : Nat} {spare : Nat → Bool} {held : Bool}

/-- within the form's reach -/
def Sized (P : Program) (t : TypeId) (d : DataW H) : Prop := ∀ n ∈ d.weights P t, n ≤ reachBytes
theorem sized_arg {ts : List TypeId} {ds : List (DataW H)} (h : (DataW.weightsEach P ts ds).all (· ≤ reachBytes) = true) {j : Nat} {t : TypeId} {d : DataW H} (ht : ts[j]? = some t) (hd : ds[j]? = some d) : Sized P t d :=
  fun n hn => of_decide_eq_true (List.all_eq_true.1 h n (DataW.weights_mem_each ht hd n hn))
theorem sized_field {t : TypeId} {fs : Array Field} {parts : List (DataW H)} (h : Sized P t (.agg parts)) (hu : P.underlying t = some (.struct fs)) {j : Nat} {f : Field} {d : DataW H} (hf : fs[j]? = some f) (hd : parts[j]? = some d) : Sized P f.type d :=
  fun n hn => h n (by
    simp only [DataW.weights, hu]
    exact DataW.weights_mem_each (j := j) (by simp [List.getElem?_map, hf]) hd n hn)
theorem weightsAll_mem {e : TypeId} : ∀ {l : List (DataW H)} {d : DataW H}, d ∈ l → ∀ n ∈ d.weights P e, n ∈ DataW.weightsAll P e l
  | x :: l, d, hd, n, hn => by
    simp only [DataW.weightsAll, List.mem_append]
    rcases List.mem_cons.1 hd with rfl | h
    · exact Or.inl hn
    · exact Or.inr (weightsAll_mem h n hn)
theorem sized_elem {t e : TypeId} {elems sp : List (DataW H)} (h : Sized P t (.slice elems sp)) (hu : P.underlying t = some (.slice e)) {d : DataW H} (hd : d ∈ elems) : Sized P e d :=
  fun n hn => h n (by
    simp only [DataW.weights, hu, List.mem_cons, List.mem_append]
    exact Or.inr (Or.inl (weightsAll_mem hd n hn)))
theorem sized_len {t e : TypeId} {elems sp : List (DataW H)} (h : Sized P t (.slice elems sp)) (hu : P.underlying t = some (.slice e)) : elems.length * P.bytesOf e ≤ 140737488355328 := by
  have h1 := h ((elems.length + sp.length) * P.bytesOf e) (by simp [DataW.weights, hu])
  have h2 : elems.length * P.bytesOf e ≤ (elems.length + sp.length) * P.bytesOf e := Nat.mul_le_mul_right _ (by omega)
  have h3 : reachBytes ≤ 140737488355328 := by decide
  omega

end

theorem spot_of_cell {w : World} {p : Addr} {v : Value} (h : w.cell? p = some v) : p.spot = none := by
  unfold World.cell? at h
  split at h
  · split at h
    · cases h
    · rename_i hs; simpa using hs
  · cases h
theorem addr_of_cell {w : World} {a : Addr} {k : Nat} {v : Value} (h0 : ∃ u, w.cell? (a.add 0) = some u) (h : w.cell? (a.add k) = some v) : a = ⟨a.block, a.off, none⟩ ∧ w.cell? ⟨a.block, a.off + k, none⟩ = some v := by
  obtain ⟨u, hu⟩ := h0
  have hs := spot_of_cell hu
  obtain ⟨b, off, sp⟩ := a
  simp [Addr.add] at hs
  subst hs
  refine ⟨rfl, ?_⟩
  rw [← h]
  congr 1
  unfold Addr.add
  split
  · subst k; rfl
  · rfl

theorem list_of {α : Type} (n : Nat) (R : Nat → α → Prop) (h : ∀ i, i < n → ∃ x, R i x) : ∃ l : List α, l.length = n ∧ ∀ k x, l[k]? = some x → R k x := by
  induction n with
  | zero => exact ⟨[], rfl, fun k x hx => by simp at hx⟩
  | succ n ih =>
    obtain ⟨l, hl, hr⟩ := ih (fun i hi => h i (by omega))
    obtain ⟨x, hx⟩ := h n (by omega)
    refine ⟨l ++ [x], by simp [hl], fun k y hy => ?_⟩
    by_cases hk : k < n
    · rw [List.getElem?_append_left (by omega)] at hy
      exact hr k y hy
    · rw [List.getElem?_append_right (by omega)] at hy
      have hk' : k - l.length = 0 := by
        have := (List.getElem?_eq_some_iff.1 hy).1
        simp at this
        omega
      rw [hk'] at hy
      simp at hy
      subst hy
      obtain rfl : k = n := by omega
      exact hx

variable {H : Type} {enc : TypeId × Value → H} {w : World} {base : Nat} {spare : Nat → Bool} {held : Bool}
end Go.Proofs.YtcpajbglcgbolaaGreat
/- Opening arguments for the abstract machine: readers that compose. -/
namespace Go.Proofs.YtcpajbglcgbolaaGreat.Am
open Go.RowKit Go.ChangeShapes Go.WideShapes Go.Deep Go.Joins

/-- nothing is owned at the start -/
abbrev mZ : MM := mO (fun _ => False)
theorem noZ (b : Nat) : ¬ Owned nov mZ b := fun h => owned_nov.1 h

section
variable {H : Type} {enc : TypeId × Value → H} {P : Program} {w : World} {base : Nat} {spare : Nat → Bool} {held : Bool}
/-- cells that stand for the values -/
def CellsRv (w : World) (es : List AV) (cs : List Value) : Prop := es.length = cs.length ∧ (∀ (j : Nat) (y : AV) (u : Value), es[j]? = some y → cs[j]? = some u → RV w nov mZ y u ∧ u.oneCell' = true) ∧ ∀ y ∈ es, Fr y
/-- data of type t read as an α -/
def Opens (enc : TypeId × Value → H) (P : Program) (w : World) (base : Nat) (spare : Nat → Bool) (held : Bool) (t : TypeId) {α : Type} (en : α → List AV) (R : α → Prop) : Prop :=
  ∀ (fuel : Nat) (cs : List Value) (x : DataW H × List MemPlace), DataW.trod enc P w base spare held fuel t cs = some x → Sized P t x.1 → ∃ a, R a ∧ CellsRv w (en a) cs

theorem cells_one1 {y : AV} {u : Value} (h : RV w nov mZ y u) (h1 : u.oneCell' = true) (hf : Fr y) : CellsRv w [y] [u] := by
  refine ⟨rfl, fun j z v hz hv => ?_, fun z hz => by simp at hz; subst hz; exact hf⟩
  cases j with
  | zero => simp at hz hv; subst hz hv; exact ⟨h, h1⟩
  | succ j => simp at hz
theorem opens_int {t : TypeId} {k : IntKind} (ht : P.underlying t = some (.int k)) : Opens enc P w base spare held t (fun z : Int => [.c (.int k z)]) (fun z => (Lit.int k z).wf = true) := by
  intro fuel cs x h _
  obtain ⟨z, rfl, _, wz⟩ := DataW.trod_int ht h
  exact ⟨z, wz, cells_one1 (.c _) rfl (.c _)⟩
theorem opens_slice {t e : TypeId} {α : Type} {en : α → List AV} {R : α → Prop} {sz by_ : Nat} (ht : P.underlying t = some (.slice e)) (hc : P.cellsOf e = sz) (hb : P.bytesOf e = by_) (hby : 0 < by_) (hsz : 0 < sz) (he : Opens enc P w base spare held e en R) :
    Opens enc P w base spare held t (fun l : List α => [.sl sz (l.map en)]) (fun l => l.length * by_ ≤ 140737488355328 ∧ ∀ x ∈ l, R x) := by
  intro fuel cs x h hs
  rcases open_slice ht h with ⟨rfl, _⟩ | ⟨a, len, cap, m, n, D, Pl, rfl, _, hl, hm, hmm, rfl, hi⟩
  · refine ⟨[], ⟨by simp, by simp⟩, cells_one1 ?_ rfl (.sl (fun e he => by cases he))⟩
    exact RV.sl (l := []) (b := 0) (off := 0) (f := fun _ _ => undef) (fun h => absurd rfl h) (Nat.zero_le _) (by simp) (fun k e h => by simp at h) (fun k j e x h => by simp at h) (fun k j e x h => by simp at h) (fun e he => by cases he)
  · have hlen := sized_len hs ht
    rw [hb] at hlen
    simp only [List.length_map, List.length_range] at hlen
    have hml : len ≤ m := by rw [hmm]; split <;> omega
    have hcell : ∀ i, i < len → ∃ z : α, R z ∧ ∃ cs', CellsRv w (en z) cs' ∧ cs'.length = sz ∧ ∀ j, j < sz → w.cell? (a.add (i * sz + j)) = cs'[j]? := by
      intro i hi'
      obtain ⟨cs', hcc, ht'⟩ := hi i (by omega)
      rw [hc] at hcc
      obtain ⟨z, hz, hcr⟩ := he n cs' _ ht' (sized_elem hs ht (List.mem_map.2 ⟨i, by simpa using hi', rfl⟩))
      obtain ⟨_, hcl', hat⟩ := World.cells?_some hcc
      exact ⟨z, hz, cs', hcr, hcl', fun j hj => by rw [← hat j hj, Go.Deep.add_add]⟩
    obtain ⟨l, hl', hat⟩ := list_of len _ hcell
    have hR : ∀ x ∈ l, R x := fun x hx => by
      obtain ⟨k, hk⟩ := List.getElem?_of_mem hx
      exact (hat k x hk).1
    have hfr : FrL (l.map en) := by
      intro e he
      obtain ⟨x, hx, rfl⟩ := List.mem_map.1 he
      obtain ⟨k, hk⟩ := List.getElem?_of_mem hx
      obtain ⟨_, cs', hcr, _⟩ := hat k x hk
      exact hcr.2.2
    refine ⟨l, ⟨by rw [hl']; exact hlen, hR⟩, cells_one1 ?_ rfl (.sl hfr)⟩
    have key : ∀ (k j : Nat) (e : List AV) (y : AV), (l.map en)[k]? = some e → e[j]? = some y → e.length = sz ∧ ∃ u, w.cell? ⟨a.block, a.off + (k * sz + j), none⟩ = some u ∧ u.oneCell' = true ∧ RV w nov mZ y u ∧ a = ⟨a.block, a.off, none⟩ ∧ a.block < w.heap.size := by
      intro k j e y hk hj
      rw [List.getElem?_map] at hk
      cases hx : l[k]? with
      | none => rw [hx] at hk; cases hk
      | some z =>
        rw [hx] at hk
        simp at hk
        subst hk
        obtain ⟨_, cs', ⟨c1, c2, _⟩, c4, c5⟩ := hat k z hx
        have hjl : j < sz := by rw [← c4, ← c1]; exact (List.getElem?_eq_some_iff.1 hj).1
        have hcj := c5 j hjl
        have hget : cs'[j]? = some (cs'[j]'(by omega)) := List.getElem?_eq_getElem _
        rw [hget] at hcj
        obtain ⟨r1, r2⟩ := c2 j y _ hj hget
        have h0 : 0 < len := by have := (List.getElem?_eq_some_iff.1 hx).1; omega
        obtain ⟨_, _, cs0, ⟨_, _, _⟩, d4, d5⟩ := hcell 0 h0
        have hz0 := d5 0 hsz
        rw [List.getElem?_eq_getElem (by omega)] at hz0
        obtain ⟨e1, e2⟩ := addr_of_cell ⟨_, by simpa using hz0⟩ hcj
        exact ⟨by rw [c1, c4], _, e2, r2, r1, e1, lt_of_cell (p := ⟨a.block, a.off + (k * sz + j), none⟩) e2⟩
    have hlen2 : (l.map en).length = len := by simp [hl']
    have := RV.sl (w := w) (vs := nov) (m := mZ) (sz := sz) (l := l.map en) (A := some a) (cap := cap) (b := a.block) (off := a.off) (f := fun k j => (w.cell? ⟨a.block, a.off + (k * sz + j), none⟩).getD undef)
      (fun hne => ?_) (by omega) (by rw [hlen2]; exact Nat.le_trans (Nat.le_mul_of_pos_right _ hby) hlen) (fun k e hk => ?_) (fun k j e y hk hj => ?_) (fun k j e y hk hj => ?_) hfr
    · rw [hlen2] at this
      exact this
    · have h0 : 0 < (l.map en).length := List.length_pos_iff.2 hne
      have hk := List.getElem?_eq_getElem h0
      obtain ⟨x0, hx0, hx0'⟩ : ∃ x0, l[0]? = some x0 ∧ (l.map en)[0] = en x0 := by
        have h1 : 0 < l.length := by simpa using h0
        exact ⟨l[0], List.getElem?_eq_getElem h1, by simp⟩
      obtain ⟨_, cs', ⟨c1, _, _⟩, c4, _⟩ := hat 0 x0 hx0
      have hel : 0 < ((l.map en)[0]).length := by rw [hx0', c1, c4]; exact hsz
      obtain ⟨_, _, _, _, _, q1, q2⟩ := key 0 0 _ _ hk (List.getElem?_eq_getElem hel)
      exact ⟨by rw [← q1], noZ _, q2⟩
    · rw [List.getElem?_map] at hk
      cases hx : l[k]? with
      | none => rw [hx] at hk; cases hk
      | some z =>
        rw [hx] at hk
        simp at hk
        subst hk
        obtain ⟨_, cs', ⟨c1, _, _⟩, c4, _⟩ := hat k z hx
        rw [c1, c4]
    · obtain ⟨_, u, q1, q2, _⟩ := key k j e y hk hj
      rw [q1]
      exact ⟨rfl, q2⟩
    · obtain ⟨_, u, q1, _, q3, _⟩ := key k j e y hk hj
      rw [q1]
      exact q3

/-- fields from one on -/
def OpensF (enc : TypeId × Value → H) (P : Program) (w : World) (base : Nat) (spare : Nat → Bool) (held : Bool) (fs : List Field) (off tot : Nat) {α : Type} (en : α → List AV) (R : α → Prop) : Prop :=
  ∀ (fuel : Nat) (cs : List Value) (xs : List (DataW H × List MemPlace)), cs.length = tot → xs.length = fs.length → (∀ (i : Nat) (f : Field), fs[i]? = some f → DataW.trod enc P w base spare held fuel f.type ((cs.drop f.offset).take (P.cellsOf f.type)) = xs[i]?) →
    (∀ (i : Nat) (f : Field) (x : DataW H × List MemPlace), fs[i]? = some f → xs[i]? = some x → Sized P f.type x.1) → ∃ a, R a ∧ CellsRv w (en a) (cs.drop off)
theorem cells_append {a b : List AV} {xs ys : List Value} (h1 : CellsRv w a xs) (h2 : CellsRv w b ys) : CellsRv w (a ++ b) (xs ++ ys) := by
  refine ⟨by rw [List.length_append, List.length_append, h1.1, h2.1], fun j y u hy hu => ?_, fun y hy => ?_⟩
  · rcases Nat.lt_or_ge j a.length with hlt | hge
    · rw [List.getElem?_append_left hlt] at hy
      rw [List.getElem?_append_left (by rw [← h1.1]; exact hlt)] at hu
      exact h1.2.1 j y u hy hu
    · rw [List.getElem?_append_right hge] at hy
      rw [List.getElem?_append_right (by rw [← h1.1]; exact hge)] at hu
      rw [h1.1] at hy
      exact h2.2.1 _ y u hy hu
  · rcases List.mem_append.1 hy with h | h
    · exact h1.2.2 y h
    · exact h2.2.2 y h
theorem opensF_last {f : Field} {off tot : Nat} {α : Type} {en : α → List AV} {R : α → Prop} (ho : f.offset = off) (htot : off + P.cellsOf f.type = tot) (h : Opens enc P w base spare held f.type en R) : OpensF enc P w base spare held [f] off tot en R := by
  intro fuel cs xs hcl hx ht hs
  obtain ⟨x, rfl⟩ := List.length_eq_one_iff.1 hx
  have h1 := ht 0 f rfl
  obtain ⟨a, ha, hc⟩ := h fuel _ x h1 (hs 0 f x rfl rfl)
  refine ⟨a, ha, ?_⟩
  rw [ho, List.take_of_length_le (by simp; omega)] at hc
  exact hc
theorem opensF_cons {f : Field} {fs : List Field} {off off' tot : Nat} {α β : Type} {en : α → List AV} {R : α → Prop} {en' : β → List AV} {R' : β → Prop} (ho : f.offset = off) (hoff : off + P.cellsOf f.type = off') (h : Opens enc P w base spare held f.type en R) (h' : OpensF enc P w base spare held fs off' tot en' R') :
    OpensF enc P w base spare held (f :: fs) off tot (fun p : α × β => en p.1 ++ en' p.2) (fun p => R p.1 ∧ R' p.2) := by
  intro fuel cs xs hcl hx ht hs
  cases xs with
  | nil => simp at hx
  | cons x xs =>
    obtain ⟨a, ha, hc⟩ := h fuel _ x (ht 0 f rfl) (hs 0 f x rfl rfl)
    obtain ⟨b, hb, hc'⟩ := h' fuel cs xs hcl (by simpa using hx) (fun i g hg => by simpa using ht (i + 1) g (by simpa using hg)) (fun i g y hg hy => hs (i + 1) g y (by simpa using hg) (by simpa using hy))
    refine ⟨(a, b), ⟨ha, hb⟩, ?_⟩
    rw [ho] at hc
    have : cs.drop off = (cs.drop off).take (P.cellsOf f.type) ++ cs.drop off' := by
      rw [← hoff, ← List.drop_drop, List.take_append_drop]
    rw [this]
    exact cells_append hc hc'
theorem opens_struct {t : TypeId} {fs : Array Field} {α : Type} {en : α → List AV} {R : α → Prop} (ht : P.underlying t = some (.struct fs)) (h : OpensF enc P w base spare held fs.toList 0 (P.cellsOf t) en R) : Opens enc P w base spare held t en R := by
  intro fuel cs x hx hs
  obtain ⟨xs, n, _, rfl, hcl, hxl, hf⟩ := DataW.trod_struct ht hx
  obtain ⟨a, ha, hc⟩ := h n cs xs hcl (by simpa using hxl) (fun i f hi => hf i f (by simpa using hi)) (fun i f y hi hy => sized_field hs ht (j := i) (by simpa using hi) (by simp [List.getElem?_map, hy]))
  exact ⟨a, ha, by simpa using hc⟩

/-- a struct that came in -/
theorem agg_rv {es : List AV} {us : Array Value} (h : CellsRv w es us.toList) : RV w nov mZ (.agg es) (.agg us) :=
  .agg (by rw [h.1]; simp) (fun j y u hy hu => (h.2.1 j y u hy (by simpa using hu)).1)
end
end Go.Proofs.YtcpajbglcgbolaaGreat.Am
/- From a walk to a law's row: the arguments read behind the call as before, the result is true. -/
namespace Go.Proofs.YtcpajbglcgbolaaGreat
open Go.RowKit Go.WideShapes Go.ChangeShapes Go.ChangeAt
section
variable {H : Type} {enc : TypeId × Value → H} {P : Program}
theorem post_of_below {f : Func} {s : ChangeSpec} {apart fresh handsOn again : Bool} {W W' : World} {args : Array Value} {v : Value} {ds gs : List (DataW H)} {before pa pv : List MemPlace}
    (hW : DataW.Whole enc P f.params.toList s.vars apart W args.toList ds gs before)
    (hres : ∀ (b : Nat) (sp : Nat → Bool) (hd : Bool), DataW.TrodAll enc P W' b sp hd f.resultTypes.toList (v.resultList f.resultTypes.size) (s.fn H (ds ++ gs)).results [])
    (hargs : ∀ sp : Nat → Bool, (∀ p ∈ before, sp p.block = true) → DataW.TrodAll enc P W' 0 sp true f.params.toList args.toList (s.fn H (ds ++ gs)).args pa)
    (hvars : ∀ sp : Nat → Bool, (∀ p ∈ before, sp p.block = true) → DataW.TrodVars enc P W' sp s.vars (s.fn H (ds ++ gs)).vars pv)
    (hps : before = pa ++ pv) (hb : Below W.heap.size W W')
    (hok : ∀ (j : Nat) (t : TypeId) (r : Value), f.resultTypes[j]? = some t → (v.resultList f.resultTypes.size)[j]? = some r → Value.okWide P W' .any 0 t r) :
    s.post enc P f apart fresh handsOn again W args v W' := by
  have hlt : ∀ p ∈ before, p.block < W.heap.size := fun p hp => hW.lt p hp
  have hold : ∀ p ∈ before, (fun b => decide (b < W.heap.size)) p.block = true := fun p hp => by simpa using hlt p hp
  refine ⟨ds, gs, before, [], pa, pv, hW, hres _ _ _, hargs _ hold, hvars _ hold, World.keptBut_mono (fun p hp => ⟨hp, ?_⟩) (hb.frame (· ∈ before)), fun _ => ?_⟩
  · rw [hps, List.mem_append] at hp
    exact Or.inr hp
  · obtain ⟨_, _, _, _, _, hz, hn⟩ := hW
    refine ⟨hok, _, _, ([] ++ pa) ++ pv, ⟨[] ++ pa, pv, trodAll_append (hargs _ (fun _ _ => rfl)) (hres _ _ _), hvars _ (fun _ _ => rfl), rfl, ?_, ?_⟩, ?_⟩
    · intro b off hp
      have hin : MemPlace.cell b off ∈ before := by rw [hps]; simpa using hp
      rw [hb.frozen (hlt _ hin)]
      exact hz b off hin
    · intro ha
      have := hn ha
      rw [hps] at this
      simpa using this
    · intro p hp _
      rw [hps]
      simpa using hp

theorem trodAll_keep (hl : laidOutB P = true) {W W' : World} (hb : Below W.heap.size W W') (sp : Nat → Bool) (ts : List TypeId) : ∀ (vs : List Value) (ds : List (DataW H)) (ps : List MemPlace), (∀ t ∈ ts, P.readableRec t = true ∧ t < P.types.size) →
    DataW.TrodAll enc P W 0 (fun _ => true) true ts vs ds ps → (∀ x ∈ ps, x.block < W.heap.size) → (∀ x ∈ ps, sp x.block = true) → DataW.TrodAll enc P W' 0 sp true ts vs ds ps := by
  induction ts with
  | nil =>
    intro vs ds ps _ h _ _
    obtain ⟨rfl, rfl, rfl⟩ := trodAll_nil h
    exact trodAll_mk0
  | cons t ts ih =>
    intro vs ds ps hts h hlt hsp
    obtain ⟨v0, vs0, d0, ds0, p0, q0, rfl, rfl, rfl, h0, r0⟩ := trodAll_cons h
    obtain ⟨hr, hrow⟩ := hts t (by simp)
    exact trodAll_cons_mk (WideElems.Trod_stays hl hr hrow h0 (fun x hx => hb.same (hlt x (by simp [hx]))) (fun x hx => hsp x (by simp [hx])))
      (ih _ _ _ (fun t ht => hts t (by simp [ht])) r0 (fun x hx => hlt x (by simp [hx])) (fun x hx => hsp x (by simp [hx])))

/-- A LAW: it returned true, nothing that was there has turned. -/
theorem law_post (hl : laidOutB P = true) {f : Func} {s : ChangeSpec} {T : TypeId} {W W' : World} {args : Array Value} {ds : List (DataW H)} {before : List MemPlace}
    (hvars : s.vars = []) (hrt : f.resultTypes = #[T]) (hT : P.underlying T = some .bool) (hts : f.params.toList.all (fun t => P.readableRec t && decide (t < P.types.size)) = true)
    (hW : DataW.Whole enc P f.params.toList s.vars false W args.toList ds [] before) (hA : DataW.TrodAll enc P W 0 (fun _ => true) true f.params.toList args.toList ds before)
    (e1 : (s.fn H (ds ++ [])).results = [.lit (.bool true)]) (e2 : (s.fn H (ds ++ [])).args = ds) (e3 : (s.fn H (ds ++ [])).vars = []) (hb : Below W.heap.size W W') :
    s.post enc P f false true false false W args (.bool true) W' := by
  have hlt : ∀ x ∈ before, x.block < W.heap.size := fun x hx => hW.lt x hx
  refine post_of_below (pa := before) (pv := []) hW ?_ ?_ ?_ (by simp) hb ?_
  · intro b sp hd
    rw [e1, hrt]
    exact trodAll_cons_mk (shut_bool hT true) trodAll_mk0
  · intro sp hsp
    rw [e2]
    exact trodAll_keep hl hb sp _ _ _ _ (fun t ht => by simpa using List.all_eq_true.1 hts t ht) hA hlt hsp
  · intro sp hsp
    rw [e3, hvars]
    rfl
  · exact ok_one hrt rfl (okWide_bool_mk hT true)
end
end Go.Proofs.YtcpajbglcgbolaaGreat
/- Readers of the arguments of the laws about tasks. -/
namespace Go.Proofs.YtcpajbglcgbolaaGreat.Am
open Go.RowKit Go.ChangeShapes Go.WideShapes Go.Deep Go.Joins
section
variable {H : Type} {enc : TypeId × Value → H} {w : World} {base : Nat} {spare : Nat → Bool} {held : Bool}
theorem opens_conv {P : Program} {t : TypeId} {α β : Type} {en : α → List AV} {en2 : β → List AV} {R : α → Prop} {R2 : β → Prop} (f : α → β) (h : Opens enc P w base spare held t en R) (he : ∀ a, en2 (f a) = en a) (hR : ∀ a, R a → R2 (f a)) : Opens enc P w base spare held t en2 R2 := by
  intro fuel cs x hx hs
  obtain ⟨a, ha, hc⟩ := h fuel cs x hx hs
  exact ⟨f a, hR a ha, by rw [he]; exact hc⟩
theorem opens_str2 {P : Program} {t : TypeId} (ht : P.underlying t = some .string) : Opens enc P w base spare held t (fun s : ByteArray => [.c (.string s)]) (fun s => s.size ≤ 140737488355328) := by
  intro fuel cs x h hsz
  obtain ⟨s, rfl, rfl, -⟩ := DataW.trod_string ht h
  refine ⟨s, ?_, cells_one1 (.c _) rfl (.c _)⟩
  have h1 : s.data.toList.length ≤ 140737488355328 := Nat.le_trans (hsz s.data.toList.length (List.mem_singleton.2 rfl)) (by decide)
  rw [Array.length_toList] at h1
  exact h1
abbrev I64F (p : Fact) : Prop := (Lit.int .i64 p.1).wf = true ∧ (Lit.int .i64 p.2).wf = true
abbrev FactsR (l : List Fact) : Prop := l.length * 16 ≤ 140737488355328 ∧ ∀ p ∈ l, I64F p
abbrev EffR (e : GEffect) : Prop := FactsR e.When
abbrev OpR (o : GOp) : Prop := o.Name.size ≤ 140737488355328 ∧ FactsR o.Pre ∧ o.Effs.length * 40 ≤ 140737488355328 ∧ ∀ e ∈ o.Effs, EffR e
abbrev IntsR (l : List Int) : Prop := l.length * 8 ≤ 140737488355328 ∧ ∀ z ∈ l, (Lit.int .i64 z).wf = true
abbrev TaskR (t : GTask) : Prop := IntsR t.Vars ∧ IntsR t.Init ∧ FactsR t.Goal ∧ t.Ops.length * 72 ≤ 140737488355328 ∧ ∀ o ∈ t.Ops, OpR o
set_option maxRecDepth 100000 in
theorem oFact : Opens enc Tryz.prog w base spare held 63 cF I64F :=
  opens_struct Tryz.underlying63 (opensF_cons (off' := 1) rfl (by kernel_rfl) (opens_int Tryz.underlying3) (opensF_last rfl (by kernel_rfl) (opens_int Tryz.underlying3)))
set_option maxRecDepth 100000 in
theorem oFacts : Opens enc Tryz.prog w base spare held 23 (fun l : List Fact => [.sl 2 (l.map cF)]) FactsR :=
  opens_slice Tryz.underlying23 (by kernel_rfl) (by kernel_rfl) (by decide) (by decide) oFact
set_option maxRecDepth 100000 in
theorem oInts : Opens enc Tryz.prog w base spare held 22 (fun l : List Int => [.sl 1 (l.map cI)]) IntsR :=
  opens_slice Tryz.underlying22 (by kernel_rfl) (by kernel_rfl) (by decide) (by decide) (opens_int Tryz.underlying3)
set_option maxRecDepth 100000 in
theorem oEff : Opens enc Tryz.prog w base spare held 61 cGEffect EffR :=
  opens_conv (fun p : List Fact × (Int × Int) => { When := p.1, Var := p.2.1, Val := p.2.2 : GEffect })
    (opens_struct Tryz.underlying61 (opensF_cons (off' := 1) (en := fun l : List Fact => [AV.sl 2 (l.map cF)]) (R := FactsR) (en' := fun z : Int × Int => [AV.c (.int .i64 z.1)] ++ [AV.c (.int .i64 z.2)]) (R' := fun z : Int × Int => (Lit.int .i64 z.1).wf = true ∧ (Lit.int .i64 z.2).wf = true) rfl (by kernel_rfl) oFacts
      (opensF_cons (off' := 2) (en := fun z : Int => [AV.c (.int .i64 z)]) (R := fun z : Int => (Lit.int .i64 z).wf = true) (en' := fun z : Int => [AV.c (.int .i64 z)]) (R' := fun z : Int => (Lit.int .i64 z).wf = true) rfl (by kernel_rfl) (opens_int Tryz.underlying3) (opensF_last rfl (by kernel_rfl) (opens_int Tryz.underlying3)))))
    (fun _ => rfl) (fun _ h => h.1)
set_option maxRecDepth 100000 in
theorem oOp : Opens enc Tryz.prog w base spare held 59 cGOp OpR :=
  opens_conv (fun p : ByteArray × (Int × (List Fact × List GEffect)) => { Name := p.1, Cost := p.2.1, Pre := p.2.2.1, Effs := p.2.2.2 : GOp })
    (opens_struct Tryz.underlying59 (opensF_cons (off' := 1) (en := fun s : ByteArray => [AV.c (.string s)]) (R := fun s => s.size ≤ 140737488355328) (en' := fun p : Int × (List Fact × List GEffect) => [AV.c (.int .i64 p.1)] ++ ([AV.sl 2 (p.2.1.map cF)] ++ [AV.sl 3 (p.2.2.map cGEffect)])) (R' := fun p : Int × (List Fact × List GEffect) => (Lit.int .i64 p.1).wf = true ∧ (FactsR p.2.1 ∧ (p.2.2.length * 40 ≤ 140737488355328 ∧ ∀ e ∈ p.2.2, EffR e))) rfl (by kernel_rfl) (opens_str2 Tryz.underlying9)
      (opensF_cons (off' := 2) (en := fun z : Int => [AV.c (.int .i64 z)]) (R := fun z : Int => (Lit.int .i64 z).wf = true) (en' := fun p : List Fact × List GEffect => [AV.sl 2 (p.1.map cF)] ++ [AV.sl 3 (p.2.map cGEffect)]) (R' := fun p : List Fact × List GEffect => FactsR p.1 ∧ (p.2.length * 40 ≤ 140737488355328 ∧ ∀ e ∈ p.2, EffR e)) rfl (by kernel_rfl) (opens_int Tryz.underlying3)
        (opensF_cons (off' := 3) (en := fun l : List Fact => [AV.sl 2 (l.map cF)]) (R := FactsR) (en' := fun l : List GEffect => [AV.sl 3 (l.map cGEffect)]) (R' := fun l : List GEffect => l.length * 40 ≤ 140737488355328 ∧ ∀ e ∈ l, EffR e) rfl (by kernel_rfl) oFacts
          (opensF_last rfl (by kernel_rfl) (opens_slice Tryz.underlying57 (by kernel_rfl) (by kernel_rfl) (by decide) (by decide) oEff))))))
    (fun _ => rfl) (fun _ h => ⟨h.1, h.2.2.1, h.2.2.2⟩)
set_option maxRecDepth 100000 in
theorem oTask : Opens enc Tryz.prog w base spare held 26 cGTask TaskR :=
  opens_conv (fun p : List Int × (List Int × (List Fact × List GOp)) => { Vars := p.1, Init := p.2.1, Goal := p.2.2.1, Ops := p.2.2.2 : GTask })
    (opens_struct Tryz.underlying26 (opensF_cons (off' := 1) (en := fun l : List Int => [AV.sl 1 (l.map cI)]) (R := IntsR) (en' := fun p : List Int × (List Fact × List GOp) => [AV.sl 1 (p.1.map cI)] ++ ([AV.sl 2 (p.2.1.map cF)] ++ [AV.sl 4 (p.2.2.map cGOp)])) (R' := fun p : List Int × (List Fact × List GOp) => IntsR p.1 ∧ (FactsR p.2.1 ∧ (p.2.2.length * 72 ≤ 140737488355328 ∧ ∀ o ∈ p.2.2, OpR o))) rfl (by kernel_rfl) oInts
      (opensF_cons (off' := 2) (en := fun l : List Int => [AV.sl 1 (l.map cI)]) (R := IntsR) (en' := fun p : List Fact × List GOp => [AV.sl 2 (p.1.map cF)] ++ [AV.sl 4 (p.2.map cGOp)]) (R' := fun p : List Fact × List GOp => FactsR p.1 ∧ (p.2.length * 72 ≤ 140737488355328 ∧ ∀ o ∈ p.2, OpR o)) rfl (by kernel_rfl) oInts
        (opensF_cons (off' := 3) (en := fun l : List Fact => [AV.sl 2 (l.map cF)]) (R := FactsR) (en' := fun l : List GOp => [AV.sl 4 (l.map cGOp)]) (R' := fun l : List GOp => l.length * 72 ≤ 140737488355328 ∧ ∀ o ∈ l, OpR o) rfl (by kernel_rfl) oFacts
          (opensF_last rfl (by kernel_rfl) (opens_slice Tryz.underlying24 (by kernel_rfl) (by kernel_rfl) (by decide) (by decide) oOp))))))
    (fun _ => rfl) (fun _ h => h)
/-- a struct argument -/
theorem arg_struct {P : Program} {t : TypeId} {fs : Array Field} {α : Type} {en : α → List AV} {R : α → Prop} {r : Reach} {b0 : Nat} {v : Value} {d : DataW H} {p : List MemPlace} (ht : P.underlying t = some (.struct fs)) (hv : Value.okWide P w r b0 t v) (ho : Opens enc P w base spare held t en R) (h : DataW.Trod enc P w base spare held t v d p) (hs : Sized P t d) :
    ∃ a, R a ∧ RV w nov mZ (.agg (en a)) v := by
  obtain ⟨cs, rfl, hsz⟩ := okWide_struct ht hv
  obtain ⟨fuel, hf⟩ := h
  obtain ⟨a, ha, hc⟩ := ho fuel _ _ hf hs
  exact ⟨a, ha, agg_rv hc⟩
end
theorem TaskR.sh {t : GTask} (h : TaskR t) : ShT t := by
  obtain ⟨⟨h1, -⟩, ⟨h2, -⟩, ⟨h3, -⟩, h4, h5⟩ := h
  refine ⟨?_, ?_, ?_, ?_, fun o ho => ?_⟩
  · show _ ≤ _; omega
  · show _ ≤ _; omega
  · show _ ≤ _; omega
  · show _ ≤ _; omega
  · obtain ⟨g1, ⟨g2, -⟩, g3, g4⟩ := h5 o ho
    refine ⟨by omega, ?_, ?_, fun e he => ?_⟩
    · show _ ≤ _; omega
    · show _ ≤ _; omega
    · have := (g4 e he).1
      show _ ≤ _; omega
theorem FactsR.sh {l : List Fact} (h : FactsR l) : Sh l := by have := h.1; show _ ≤ _; omega
theorem law_of {f : FuncId} {args : List AV} {w : World} {cargs : Array Value} (h : ACall cx f args (.c (.bool true))) (hs : cargs.size = args.length) (hr : ∀ (j : Nat) (x : AV) (v : Value), args[j]? = some x → cargs[j]? = some v → RV w nov (mO (fun _ => False)) x v) :
    Calls Tryz.prog f cargs w fun e w' => e = .returned (.bool true) ∧ Below w.heap.size w w' := by
  refine Calls.mono (h.2 w (fun _ => False) cargs trivial (Nat.zero_le _) (fun b hb => hb.elim) hs hr) ?_
  rintro e w' ⟨v, rfl, h1, h2, _⟩
  rw [rv_c h1]
  exact ⟨rfl, ⟨h2.os, h2.tape, h2.output, h2.size, fun b hb => h2.block b hb (fun h => h)⟩⟩
end Go.Proofs.YtcpajbglcgbolaaGreat.Am
/- Reader of a certificate. -/
namespace Go.Proofs.YtcpajbglcgbolaaGreat.Am
open Go.RowKit Go.ChangeShapes Go.WideShapes Go.Deep Go.Joins
section
variable {H : Type} {enc : TypeId × Value → H} {w : World} {base : Nat} {spare : Nat → Bool} {held : Bool}
abbrev NogR (x : Nogood) : Prop := FactsR x.1 ∧ (Lit.int .i64 x.2).wf = true
abbrev CertR (c : GCertificate) : Prop := c.Nogoods.length * 32 ≤ 140737488355328 ∧ ∀ x ∈ c.Nogoods, NogR x
set_option maxRecDepth 100000 in
theorem oNogood : Opens enc Tryz.prog w base spare held 51 cN NogR :=
  opens_struct Tryz.underlying51 (opensF_cons (off' := 1) (en := fun l : List Fact => [AV.sl 2 (l.map cF)]) (R := FactsR) (en' := fun z : Int => [AV.c (.int .i64 z)]) (R' := fun z : Int => (Lit.int .i64 z).wf = true) rfl (by kernel_rfl) oFacts (opensF_last rfl (by kernel_rfl) (opens_int Tryz.underlying3)))
set_option maxRecDepth 100000 in
theorem oNogoods : Opens enc Tryz.prog w base spare held 27 (fun l : List Nogood => [.sl 2 (l.map cN)]) (fun l => l.length * 32 ≤ 140737488355328 ∧ ∀ x ∈ l, NogR x) :=
  opens_slice Tryz.underlying27 (by kernel_rfl) (by kernel_rfl) (by decide) (by decide) oNogood
set_option maxRecDepth 100000 in
theorem oCert : Opens enc Tryz.prog w base spare held 29 cGCertificate CertR :=
  opens_conv (fun p : Int × List Nogood => { Bound := p.1, Nogoods := p.2 : GCertificate })
    (opens_struct Tryz.underlying29 (opensF_cons (off' := 1) (en := fun z : Int => [AV.c (.int .i64 z)]) (R := fun z : Int => (Lit.int .i64 z).wf = true) (en' := fun l : List Nogood => [AV.sl 2 (l.map cN)]) (R' := fun l : List Nogood => l.length * 32 ≤ 140737488355328 ∧ ∀ x ∈ l, NogR x) rfl (by kernel_rfl) (opens_int Tryz.underlying3) (opensF_last rfl (by kernel_rfl) oNogoods)))
    (fun _ => rfl) (fun _ h => h.2)
end
theorem CertR.sh {c : GCertificate} (h : CertR c) : ShC c := by
  refine ⟨?_, fun n hn => ?_⟩
  · have := h.1; show _ ≤ _; omega
  · have := (h.2 n hn).1.1; show _ ≤ _; omega
end Go.Proofs.YtcpajbglcgbolaaGreat.Am
/- stratagemlaw31.CheckerVerifies returns true for every input. No condition beyond the row's own. -/
namespace Go.Proofs.YtcpajbglcgbolaaGreat.rowVerifies
open Go.ChangeShapes Go.WideShapes Go.ChangeAt Go.RowKit Am
theorem laidOut : laidOutB Tryz.prog = true := by kernel_rfl
set_option maxRecDepth 100000 in
theorem contract (H : Type) (enc : TypeId × Value → H) (W : World) (base : Nat) (args : Array Value) (ds gs : List (DataW H)) (before : List MemPlace)
    (hval : ∀ (j : Nat) t v, Tryz.f3.params[j]? = some t → args[j]? = some v → Value.okWide Tryz.prog W .any base t v)
    (hW : DataW.Whole enc Tryz.prog Tryz.f3.params.toList Rows.checkerVerifiesSpec.vars false W args.toList ds gs before)
    (hsz : (DataW.weightsEach Tryz.prog (Tryz.f3.params.toList ++ (OpenSpec.ofChange Rows.checkerVerifiesSpec).bare.plain.varTypes Tryz.prog) (ds ++ gs)).all (· ≤ reachBytes) = true) :
    Calls Tryz.prog 3 args W fun e W' => ∃ v, e = .returned v ∧ Rows.checkerVerifiesSpec.post enc Tryz.prog Tryz.f3 false true false false W args v W' := by
  have hW' := hW
  obtain ⟨p, q, hA0, hV, rfl, hfz, hnd⟩ := hW
  have hA : DataW.TrodAll enc Tryz.prog W 0 (fun _ => true) true Tryz.f3.params.toList args.toList ds p := hA0
  rw [Tryz.params3] at hA hval
  obtain ⟨v0, vs0, d0, ds0, p0, q0, hargs, rfl, rfl, h0, r0⟩ := trodAll_cons hA
  obtain ⟨v1, vs1, d1, ds1, p1, q1, rfl, rfl, rfl, h1, r1⟩ := trodAll_cons r0
  obtain ⟨rfl, rfl, rfl⟩ := trodAll_nil r1
  obtain rfl : args = #[v0, v1] := Array.ext' hargs
  obtain ⟨rfl, rfl⟩ := trodVars_none hV
  simp only [List.append_nil] at hW' hA0 hsz
  rw [Tryz.params3] at hsz
  obtain ⟨t, ht, k0⟩ := arg_struct Tryz.underlying26 (hval 0 26 v0 rfl rfl) oTask h0 (sized_arg hsz (j := 0) rfl rfl)
  obtain ⟨c, hc, k1⟩ := arg_struct Tryz.underlying29 (hval 1 29 v1 rfl rfl) oCert h1 (sized_arg hsz (j := 1) rfl rfl)
  refine (law_of (A_l31_CheckerVerifies 100 t c (verifies_true 100 (by decide) t ht.sh c hc.sh)) rfl (fun j x v hx hv => ?_)).mono fun e W' ⟨he, hb⟩ => ?_
  · match j, hx, hv with
    | 0, hx, hv => simp at hx hv; subst hx hv; exact k0
    | 1, hx, hv => simp at hx hv; subst hx hv; exact k1
    | j + 2, hx, hv => simp at hx
  · subst he
    exact ⟨_, rfl, law_post laidOut rfl (by kernel_rfl) Tryz.underlying4 (by kernel_rfl) hW' hA0 rfl rfl rfl hb⟩
theorem own : ownKnob Tryz.prog.godebug = none := by kernel_rfl
theorem laid_met (os : Os) : laidMet Tryz.prog Rows.checkerVerifiesRow.laid ((World.holding Tryz.prog os ⟨#[], #[], []⟩).forCall (fun _ _ => 0) ⟨#[], #[.agg #[.slice none 0 0, .slice none 0 0, .slice none 0 0, .slice none 0 0], .agg #[.int .i64 0, .slice none 0 0]], []⟩).memory :=
  laidMet_of_run' 8 (by kernel_rfl) (by kernel_rfl)
theorem reads (os : Os) {H : Type} (enc : TypeId × Value → H) : ∃ places, DataW.whole enc Tryz.prog ((World.holding Tryz.prog os ⟨#[], #[], []⟩).forCall (fun _ _ => 0) ⟨#[], #[.agg #[.slice none 0 0, .slice none 0 0, .slice none 0 0, .slice none 0 0], .agg #[.int .i64 0, .slice none 0 0]], []⟩).memory Tryz.f3.params.toList Rows.checkerVerifiesSpec.vars false (#[.agg #[.slice none 0 0, .slice none 0 0, .slice none 0 0, .slice none 0 0], .agg #[.int .i64 0, .slice none 0 0]] : Array Value).toList 8 = some ([.agg [.nil, .nil, .nil, .nil], .agg [.lit (.int .i64 0), .nil]], [], places) :=
  ⟨[], by kernel_rfl⟩

set_option maxRecDepth 100000 in
theorem lifted (os : Os) (started : os.Started) (H : Type) (enc : TypeId × Value → H) (F : Stop.Interp) :
    ReturnsInHanded {} Tryz.checked os 3 .any ((OpenSpec.ofChange Rows.checkerVerifiesSpec).preRow enc Tryz.prog Tryz.f3 Rows.checkerVerifiesRow.domain false Rows.checkerVerifiesRow.laid) (((OpenSpec.ofChange Rows.checkerVerifiesSpec).at F).post enc Tryz.prog Tryz.f3 false true false false) := by
  obtain ⟨places, hx⟩ := reads os enc
  refine returnsInHanded_of_row (C := Tryz.checked) (s := OpenSpec.ofChange Rows.checkerVerifiesSpec) own started (by kernel_rfl) Tryz.func3
    (witness_row_at (enc := enc) (C := Tryz.checked) false (World.holding Tryz.prog os ⟨#[], #[], []⟩) #[.agg #[.slice none 0 0, .slice none 0 0, .slice none 0 0, .slice none 0 0], .agg #[.int .i64 0, .slice none 0 0]] rfl (by kernel_rfl) (by kernel_rfl) (by kernel_rfl)
      (OpenSpec.preRow_of_cond 8 hx (by kernel_rfl) (fun k hk => by cases hk) (by kernel_rfl) (laid_met os))) ?_
  intro W base args ds gs before hval hW _ _ hsz _ _ _
  exact contract H enc W base args ds gs before hval hW hsz

/-- THE STATEMENT. -/
theorem said : Rows.CheckerVerifiesSaid :=
  OpenClaim.holds_of_cond 3 Tryz.f3 rfl rfl rfl rfl rfl rfl rfl ⟨rfl, rfl, rfl, rfl, rfl⟩ rfl rfl rfl rfl rfl (by kernel_rfl) Tryz.func3 (by kernel_rfl)
    (of_decide_eq_true (by kernel_rfl)) (by unfold Func.isWrapper; first | (rw [if_pos (by decide +kernel)]; kernel_rfl) | (rw [if_neg (by decide +kernel)]; exact ⟨rfl, rfl⟩))
    (fun os started H enc _ F => by rw [OpenClaim.pre_eq_preRow]; exact lifted os started H enc F)
end Go.Proofs.YtcpajbglcgbolaaGreat.rowVerifies
