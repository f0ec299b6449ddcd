/- Texts of the proof, part 4 of 5. -/
import Derived.Test.YteapjpgabdegnaaB3
import Derived.Test.YteapjpgabdegnaaB1
import Derived.Test.YteapjpgabdegnaaB2
import Derived.Laws.Cover3
import Derived.Maps.Keyed
/- Range loops of the models as recursions. -/
namespace Go.Proofs.Yteapjpgabdegnaa.Am
def M_task_conditions_L1_B (_ : GOp) (_y65 : GEffect) (_ : Int) : ((List (List Fact))) → (((List (List Fact))) → Option (List (List Fact))) → Option (List (List Fact)) := fun v63 rc => ixv _y65 (fun y65 =>
       grd ((v63.length + 1) * 24 ≤ 140737488355328) (rc ((v63 ++ [y65.When]))))
def M_task_conditions_L1_E (_ : GOp) : ((List (List Fact))) → Option (List (List Fact)) := fun v63 => some v63
theorem M_task_conditions_L1_rg (y57 : GOp) (hl : y57.Effs.length < 9223372036854775807) : ∀ (k n : Nat) (v63 : List (List Fact)), n ≤ y57.Effs.length → y57.Effs.length < k + n → M_task_conditions_L1 y57 k (n : Int) v63 = Rg (M_task_conditions_L1_B y57) (M_task_conditions_L1_E y57) (y57.Effs.drop n) n v63 := by
  intro k n v63
  refine rg_of (L := fun k i (p : ((List (List Fact)))) => match p with | v63 => M_task_conditions_L1 y57 k i v63) hl (fun k n p y hy hn => ?_) (fun k p => ?_) k n v63
  · have h1 := lt_some hy
    have h2 := w64s hn
    simp only [M_task_conditions_L1, M_task_conditions_L1_B, List.length_map, decide_lt h1, sel, ix_at hy, ixv, h2]
  · simp only [M_task_conditions_L1, M_task_conditions_L1_E, List.length_map, decide_ge, sel]
theorem M_task_conditions_L1_eq (y57 : GOp) (v63 : List (List Fact)) (hl : y57.Effs.length < 9223372036854775807) : M_task_conditions_L1 y57 (((y57.Effs.map cGEffect).length : Int).toNat + 1) 0 v63 = Rg (M_task_conditions_L1_B y57) (M_task_conditions_L1_E y57) y57.Effs 0 v63 := by
  have h := M_task_conditions_L1_rg y57 hl (y57.Effs.length + 1) 0 v63 (Nat.zero_le _) (by omega)
  rw [List.length_map, Int.toNat_natCast]
  exact h
def M_task_conditions_L2_B (_ : GTask) (_y57 : GOp) (_ : Int) : ((List (List Fact))) → (((List (List Fact))) → Option (List (List Fact))) → Option (List (List Fact)) := fun v44 rc => ob1 (ixv _y57 (fun y57 =>
        grd ((v44.length + 1) * 24 ≤ 140737488355328) (M_task_conditions_L1 y57 ((((y57.Effs.map cGEffect).length : Int)).toNat + 1) 0 (v44 ++ [y57.Pre]))) : Option (List (List Fact)))
       (fun v55 => rc (v55))
def M_task_conditions_L2_E (_ : GTask) : ((List (List Fact))) → Option (List (List Fact)) := fun v44 => grd (v44.length ≤ 140737488355328) (some v44)
theorem M_task_conditions_L2_rg (a0 : GTask) (hl : a0.Ops.length < 9223372036854775807) : ∀ (k n : Nat) (v44 : List (List Fact)), n ≤ a0.Ops.length → a0.Ops.length < k + n → M_task_conditions_L2 a0 k (n : Int) v44 = Rg (M_task_conditions_L2_B a0) (M_task_conditions_L2_E a0) (a0.Ops.drop n) n v44 := by
  intro k n v44
  refine rg_of (L := fun k i (p : ((List (List Fact)))) => match p with | v44 => M_task_conditions_L2 a0 k i v44) hl (fun k n p y hy hn => ?_) (fun k p => ?_) k n v44
  · have h1 := lt_some hy
    have h2 := w64s hn
    simp only [M_task_conditions_L2, M_task_conditions_L2_B, List.length_map, decide_lt h1, sel, ix_at hy, ixv, h2]
  · simp only [M_task_conditions_L2, M_task_conditions_L2_E, List.length_map, decide_ge, sel]
theorem M_task_conditions_L2_eq (a0 : GTask) (v44 : List (List Fact)) (hl : a0.Ops.length < 9223372036854775807) : M_task_conditions_L2 a0 (((a0.Ops.map cGOp).length : Int).toNat + 1) 0 v44 = Rg (M_task_conditions_L2_B a0) (M_task_conditions_L2_E a0) a0.Ops 0 v44 := by
  have h := M_task_conditions_L2_rg a0 hl (a0.Ops.length + 1) 0 v44 (Nat.zero_le _) (by omega)
  rw [List.length_map, Int.toNat_natCast]
  exact h
def M_s_IndexFunc_Fact_L1_B (_ : List (List Fact)) (a1 : (List Fact) → Option Bool) (_y8 : List Fact) (v6 : Int) : Unit → (Unit → Option (Int)) → Option (Int) := fun _ rc => ixv _y8 (fun y8 =>
       ob1 (a1 y8) (fun z9 =>
        sel z9
         (some v6)
         (rc ())))
def M_s_IndexFunc_Fact_L1_E (_ : List (List Fact)) (_ : (List Fact) → Option Bool) : Unit → Option (Int) := fun _ => some (-1)
theorem M_s_IndexFunc_Fact_L1_rg (a0 : List (List Fact)) (a1 : (List Fact) → Option Bool) (hl : a0.length < 9223372036854775807) : ∀ (k n : Nat) , n ≤ a0.length → a0.length < k + n → M_s_IndexFunc_Fact_L1 a0 a1 k (n : Int) = Rg (M_s_IndexFunc_Fact_L1_B a0 a1) (M_s_IndexFunc_Fact_L1_E a0 a1) (a0.drop n) n () := by
  intro k n 
  refine rg_of (L := fun k i (p : Unit) => M_s_IndexFunc_Fact_L1 a0 a1 k i) hl (fun k n p y hy hn => ?_) (fun k p => ?_) k n ()
  · have h1 := lt_some hy
    have h2 := w64s hn
    simp only [M_s_IndexFunc_Fact_L1, M_s_IndexFunc_Fact_L1_B, List.length_map, decide_lt h1, sel, ix_at hy, ixv, h2]
  · simp only [M_s_IndexFunc_Fact_L1, M_s_IndexFunc_Fact_L1_E, List.length_map, decide_ge, sel]
theorem M_s_IndexFunc_Fact_L1_eq (a0 : List (List Fact)) (a1 : (List Fact) → Option Bool)  (hl : a0.length < 9223372036854775807) : M_s_IndexFunc_Fact_L1 a0 a1 (((a0.map cL_cF).length : Int).toNat + 1) 0 = Rg (M_s_IndexFunc_Fact_L1_B a0 a1) (M_s_IndexFunc_Fact_L1_E a0 a1) a0 0 () := by
  have h := M_s_IndexFunc_Fact_L1_rg a0 a1 hl (a0.length + 1) 0  (Nat.zero_le _) (by omega)
  rw [List.length_map, Int.toNat_natCast]
  exact h
def M_task_large_L1_B (_ : GTask) (_y8 : GOp) (_ : Int) : Unit → (Unit → Option (Bool)) → Option (Bool) := fun _ rc => ixv _y8 (fun y8 =>
       sel (decide (((y8.Effs.map cGEffect).length : Int) > 64))
        (some true)
        (rc ()))
def M_task_large_L1_E (a0 : GTask) : Unit → Option (Bool) := fun _ => ob1 (M_task_conditions a0) (fun z9 =>
       ob1 (M_s_ContainsFunc_Fact z9 M_task_large_1) (fun z10 =>
        some z10))
theorem M_task_large_L1_rg (a0 : GTask) (hl : a0.Ops.length < 9223372036854775807) : ∀ (k n : Nat) , n ≤ a0.Ops.length → a0.Ops.length < k + n → M_task_large_L1 a0 k (n : Int) = Rg (M_task_large_L1_B a0) (M_task_large_L1_E a0) (a0.Ops.drop n) n () := by
  intro k n 
  refine rg_of (L := fun k i (p : Unit) => M_task_large_L1 a0 k i) hl (fun k n p y hy hn => ?_) (fun k p => ?_) k n ()
  · have h1 := lt_some hy
    have h2 := w64s hn
    simp only [M_task_large_L1, M_task_large_L1_B, List.length_map, decide_lt h1, sel, ix_at hy, ixv, h2]
  · simp only [M_task_large_L1, M_task_large_L1_E, List.length_map, decide_ge, sel]
theorem M_task_large_L1_eq (a0 : GTask)  (hl : a0.Ops.length < 9223372036854775807) : M_task_large_L1 a0 (((a0.Ops.map cGOp).length : Int).toNat + 1) 0 = Rg (M_task_large_L1_B a0) (M_task_large_L1_E a0) a0.Ops 0 () := by
  have h := M_task_large_L1_rg a0 hl (a0.Ops.length + 1) 0  (Nat.zero_le _) (by omega)
  rw [List.length_map, Int.toNat_natCast]
  exact h
def M_task_Proper_L1_B (a0 : List Int) (_ : List Int) (_y8 : Int) (v6 : Int) : Unit → (Unit → Option (Bool)) → Option (Bool) := fun _ rc => ixv _y8 (fun y8 =>
       sel (decide (y8 < 0))
        (some false)
        (ix a0 v6 (fun y9 =>
          sel (decide (y8 ≥ y9))
           (some false)
           (rc ()))))
def M_task_Proper_L1_E (_ : List Int) (_ : List Int) : Unit → Option (Bool) := fun _ => some true
theorem M_task_Proper_L1_rg (a0 : List Int) (a1 : List Int) (hl : a1.length < 9223372036854775807) : ∀ (k n : Nat) , n ≤ a1.length → a1.length < k + n → M_task_Proper_L1 a0 a1 k (n : Int) = Rg (M_task_Proper_L1_B a0 a1) (M_task_Proper_L1_E a0 a1) (a1.drop n) n () := by
  intro k n 
  refine rg_of (L := fun k i (p : Unit) => M_task_Proper_L1 a0 a1 k i) hl (fun k n p y hy hn => ?_) (fun k p => ?_) k n ()
  · have h1 := lt_some hy
    have h2 := w64s hn
    simp only [M_task_Proper_L1, M_task_Proper_L1_B, List.length_map, decide_lt h1, sel, ix_at hy, ixv, h2]
  · simp only [M_task_Proper_L1, M_task_Proper_L1_E, List.length_map, decide_ge, sel]
theorem M_task_Proper_L1_eq (a0 : List Int) (a1 : List Int)  (hl : a1.length < 9223372036854775807) : M_task_Proper_L1 a0 a1 (((a1.map cI).length : Int).toNat + 1) 0 = Rg (M_task_Proper_L1_B a0 a1) (M_task_Proper_L1_E a0 a1) a1 0 () := by
  have h := M_task_Proper_L1_rg a0 a1 hl (a1.length + 1) 0  (Nat.zero_le _) (by omega)
  rw [List.length_map, Int.toNat_natCast]
  exact h
def M_task_Facts_L1_B (a0 : List Int) (_ : List Fact) (_y10 : Fact) (_ : Int) : ((Int)) → (((Int)) → Option (Bool)) → Option (Bool) := fun v7 rc => ixv _y10 (fun y10 =>
       sel (decide (y10.1 ≤ v7))
        (some false)
        (sel (decide (y10.1 ≥ ((a0.map cI).length : Int)))
          (some false)
          (sel (decide (y10.2 < 0))
            (some false)
            (ix a0 y10.1 (fun y11 =>
              sel (decide (y10.2 ≥ y11))
               (some false)
               (rc (y10.1)))))))
def M_task_Facts_L1_E (_ : List Int) (_ : List Fact) : ((Int)) → Option (Bool) := fun _ => some true
theorem M_task_Facts_L1_rg (a0 : List Int) (a1 : List Fact) (hl : a1.length < 9223372036854775807) : ∀ (k n : Nat) (v7 : Int), n ≤ a1.length → a1.length < k + n → M_task_Facts_L1 a0 a1 k v7 (n : Int) = Rg (M_task_Facts_L1_B a0 a1) (M_task_Facts_L1_E a0 a1) (a1.drop n) n v7 := by
  intro k n v7
  refine rg_of (L := fun k i (p : ((Int))) => match p with | v7 => M_task_Facts_L1 a0 a1 k v7 i) hl (fun k n p y hy hn => ?_) (fun k p => ?_) k n v7
  · have h1 := lt_some hy
    have h2 := w64s hn
    simp only [M_task_Facts_L1, M_task_Facts_L1_B, List.length_map, decide_lt h1, sel, ix_at hy, ixv, h2]
  · simp only [M_task_Facts_L1, M_task_Facts_L1_E, List.length_map, decide_ge, sel]
theorem M_task_Facts_L1_eq (a0 : List Int) (a1 : List Fact) (v7 : Int) (hl : a1.length < 9223372036854775807) : M_task_Facts_L1 a0 a1 (((a1.map cF).length : Int).toNat + 1) v7 0 = Rg (M_task_Facts_L1_B a0 a1) (M_task_Facts_L1_E a0 a1) a1 0 v7 := by
  have h := M_task_Facts_L1_rg a0 a1 hl (a1.length + 1) 0 v7 (Nat.zero_le _) (by omega)
  rw [List.length_map, Int.toNat_natCast]
  exact h
def M_task_named_L1_B (a0 : ByteArray) (v2 : Int) : Unit → (Unit → Option (Bool)) → Option (Bool) := fun _ rc => sel (decide ((byt a0 v2) < 32))
       (grd (0 ≤ v2) (grd (v2 < (a0.size : Int)) (some false)))
       (grd (0 ≤ v2) (grd (v2 < (a0.size : Int)) (sel (decide ((byt a0 v2) > 126))
         (some false)
         (rc ()))))
def M_task_named_L1_E (a0 : ByteArray) : Unit → Option (Bool) := fun _ => some (decide ((a0.size : Int) ≤ 256))
theorem M_task_named_L1_rg (a0 : ByteArray) {m : Nat} (hm : (a0.size : Int) = (m : Int)) (hl : m < 9223372036854775807) : ∀ (k n : Nat) , n ≤ m → m < k + n → M_task_named_L1 a0 k (n : Int) = Rn (M_task_named_L1_B a0) (M_task_named_L1_E a0) (m - n) n () := by
  intro k n 
  refine rn_of (L := fun k i (p : Unit) => M_task_named_L1 a0 k i) hl (fun k n p hn => ?_) (fun k p => ?_) k n ()
  · have h2 := w64s (Nat.lt_trans hn hl)
    simp only [M_task_named_L1, M_task_named_L1_B, hm, decide_lt hn, sel, h2]
  · simp only [M_task_named_L1, M_task_named_L1_E, hm, decide_ge, sel]
theorem M_task_named_L1_eq (a0 : ByteArray)  {m : Nat} (hm : (a0.size : Int) = (m : Int)) (hl : m < 9223372036854775807) : M_task_named_L1 a0 (((a0.size : Int)).toNat + 1) 0 = Rn (M_task_named_L1_B a0) (M_task_named_L1_E a0) m 0 () := by
  have h := M_task_named_L1_rg a0 hm hl (m + 1) 0  (Nat.zero_le _) (by omega)
  have e : ((a0.size : Int)).toNat = m := by rw [hm, Int.toNat_natCast]
  rw [e]
  exact h
def M_task_Check_L1_B (_ : GTask) (_y15 : Int) (_ : Int) : Unit → (Unit → Option (Unit ⊕ Er)) → Option (Unit ⊕ Er) := fun _ rc => ixv _y15 (fun y15 =>
       sel (decide (y15 < 1))
        (some (.inr (Er.no 1)))
        (sel (decide (y15 > 64))
          (some (.inr (Er.no 1)))
          (rc ())))
def M_task_Check_L1_E (_ : GTask) : Unit → Option (Unit ⊕ Er) := fun _ => some (.inl ())
theorem M_task_Check_L1_rg (a0 : GTask) (hl : a0.Vars.length < 9223372036854775807) : ∀ (k n : Nat) , n ≤ a0.Vars.length → a0.Vars.length < k + n → M_task_Check_L1 a0 k (n : Int) = Rg (M_task_Check_L1_B a0) (M_task_Check_L1_E a0) (a0.Vars.drop n) n () := by
  intro k n 
  refine rg_of (L := fun k i (p : Unit) => M_task_Check_L1 a0 k i) hl (fun k n p y hy hn => ?_) (fun k p => ?_) k n ()
  · have h1 := lt_some hy
    have h2 := w64s hn
    simp only [M_task_Check_L1, M_task_Check_L1_B, List.length_map, decide_lt h1, sel, ix_at hy, ixv, h2]
  · simp only [M_task_Check_L1, M_task_Check_L1_E, List.length_map, decide_ge, sel]
theorem M_task_Check_L1_eq (a0 : GTask)  (hl : a0.Vars.length < 9223372036854775807) : M_task_Check_L1 a0 (((a0.Vars.map cI).length : Int).toNat + 1) 0 = Rg (M_task_Check_L1_B a0) (M_task_Check_L1_E a0) a0.Vars 0 () := by
  have h := M_task_Check_L1_rg a0 hl (a0.Vars.length + 1) 0  (Nat.zero_le _) (by omega)
  rw [List.length_map, Int.toNat_natCast]
  exact h
def M_task_Check_L2_B (_ : GTask) (_y29 : GOp) (_ : Int) : Unit → (Unit → Option (Unit ⊕ Er)) → Option (Unit ⊕ Er) := fun _ rc => ixv _y29 (fun y29 =>
       sel (decide (y29.Cost < 0))
        (some (.inr (Er.no 1)))
        (sel (decide (y29.Cost > 1048576))
          (some (.inr (Er.no 1)))
          (rc ())))
def M_task_Check_L2_E (_ : GTask) : Unit → Option (Unit ⊕ Er) := fun _ => some (.inl ())
theorem M_task_Check_L2_rg (a0 : GTask) (hl : a0.Ops.length < 9223372036854775807) : ∀ (k n : Nat) , n ≤ a0.Ops.length → a0.Ops.length < k + n → M_task_Check_L2 a0 k (n : Int) = Rg (M_task_Check_L2_B a0) (M_task_Check_L2_E a0) (a0.Ops.drop n) n () := by
  intro k n 
  refine rg_of (L := fun k i (p : Unit) => M_task_Check_L2 a0 k i) hl (fun k n p y hy hn => ?_) (fun k p => ?_) k n ()
  · have h1 := lt_some hy
    have h2 := w64s hn
    simp only [M_task_Check_L2, M_task_Check_L2_B, List.length_map, decide_lt h1, sel, ix_at hy, ixv, h2]
  · simp only [M_task_Check_L2, M_task_Check_L2_E, List.length_map, decide_ge, sel]
theorem M_task_Check_L2_eq (a0 : GTask)  (hl : a0.Ops.length < 9223372036854775807) : M_task_Check_L2 a0 (((a0.Ops.map cGOp).length : Int).toNat + 1) 0 = Rg (M_task_Check_L2_B a0) (M_task_Check_L2_E a0) a0.Ops 0 () := by
  have h := M_task_Check_L2_rg a0 hl (a0.Ops.length + 1) 0  (Nat.zero_le _) (by omega)
  rw [List.length_map, Int.toNat_natCast]
  exact h
def M_task_Check_L3_B (a0 : GTask) (_ : List (List Fact)) (_y51 : List Fact) (_ : Int) : Unit → (Unit → Option (Unit ⊕ Er)) → Option (Unit ⊕ Er) := fun _ rc => ixv _y51 (fun y51 =>
       ob1 (M_task_Facts a0.Vars y51) (fun z52 =>
        sel (!z52)
         (some (.inr (Er.no 2)))
         (rc ())))
def M_task_Check_L3_E (_ : GTask) (_ : List (List Fact)) : Unit → Option (Unit ⊕ Er) := fun _ => some (.inl ())
theorem M_task_Check_L3_rg (a0 : GTask) (z43 : List (List Fact)) (hl : z43.length < 9223372036854775807) : ∀ (k n : Nat) , n ≤ z43.length → z43.length < k + n → M_task_Check_L3 a0 z43 k (n : Int) = Rg (M_task_Check_L3_B a0 z43) (M_task_Check_L3_E a0 z43) (z43.drop n) n () := by
  intro k n 
  refine rg_of (L := fun k i (p : Unit) => M_task_Check_L3 a0 z43 k i) hl (fun k n p y hy hn => ?_) (fun k p => ?_) k n ()
  · have h1 := lt_some hy
    have h2 := w64s hn
    simp only [M_task_Check_L3, M_task_Check_L3_B, List.length_map, decide_lt h1, sel, ix_at hy, ixv, h2]
  · simp only [M_task_Check_L3, M_task_Check_L3_E, List.length_map, decide_ge, sel]
theorem M_task_Check_L3_eq (a0 : GTask) (z43 : List (List Fact))  (hl : z43.length < 9223372036854775807) : M_task_Check_L3 a0 z43 (((z43.map cL_cF).length : Int).toNat + 1) 0 = Rg (M_task_Check_L3_B a0 z43) (M_task_Check_L3_E a0 z43) z43 0 () := by
  have h := M_task_Check_L3_rg a0 z43 hl (z43.length + 1) 0  (Nat.zero_le _) (by omega)
  rw [List.length_map, Int.toNat_natCast]
  exact h
def M_task_Check_L4_B (a0 : GTask) (_ : GOp) (_y191 : GEffect) (_ : Int) : Unit → (Unit → Option (Unit ⊕ Er)) → Option (Unit ⊕ Er) := fun _ rc => ixv _y191 (fun y191 =>
       ob1 (M_task_Facts a0.Vars [(y191.Var, y191.Val)]) (fun z192 =>
        sel (!z192)
         (some (.inr (Er.no 2)))
         (rc ())))
def M_task_Check_L4_E (_ : GTask) (_ : GOp) : Unit → Option (Unit ⊕ Er) := fun _ => some (.inl ())
theorem M_task_Check_L4_rg (a0 : GTask) (y183 : GOp) (hl : y183.Effs.length < 9223372036854775807) : ∀ (k n : Nat) , n ≤ y183.Effs.length → y183.Effs.length < k + n → M_task_Check_L4 a0 y183 k (n : Int) = Rg (M_task_Check_L4_B a0 y183) (M_task_Check_L4_E a0 y183) (y183.Effs.drop n) n () := by
  intro k n 
  refine rg_of (L := fun k i (p : Unit) => M_task_Check_L4 a0 y183 k i) hl (fun k n p y hy hn => ?_) (fun k p => ?_) k n ()
  · have h1 := lt_some hy
    have h2 := w64s hn
    simp only [M_task_Check_L4, M_task_Check_L4_B, List.length_map, decide_lt h1, sel, ix_at hy, ixv, h2]
  · simp only [M_task_Check_L4, M_task_Check_L4_E, List.length_map, decide_ge, sel]
theorem M_task_Check_L4_eq (a0 : GTask) (y183 : GOp)  (hl : y183.Effs.length < 9223372036854775807) : M_task_Check_L4 a0 y183 (((y183.Effs.map cGEffect).length : Int).toNat + 1) 0 = Rg (M_task_Check_L4_B a0 y183) (M_task_Check_L4_E a0 y183) y183.Effs 0 () := by
  have h := M_task_Check_L4_rg a0 y183 hl (y183.Effs.length + 1) 0  (Nat.zero_le _) (by omega)
  rw [List.length_map, Int.toNat_natCast]
  exact h
def M_task_Check_L5_B (a0 : GTask) (_y183 : GOp) (_ : Int) : Unit → (Unit → Option (Unit ⊕ Er)) → Option (Unit ⊕ Er) := fun _ rc => ob1 (ixv _y183 (fun y183 =>
        M_task_Check_L4 a0 y183 ((((y183.Effs.map cGEffect).length : Int)).toNat + 1) 0) : Option (Unit ⊕ Er))
       (osum
       (fun _ => rc ())
       (fun r181 => some (.inr r181)))
def M_task_Check_L5_E (_ : GTask) : Unit → Option (Unit ⊕ Er) := fun _ => some (.inl ())
theorem M_task_Check_L5_rg (a0 : GTask) (hl : a0.Ops.length < 9223372036854775807) : ∀ (k n : Nat) , n ≤ a0.Ops.length → a0.Ops.length < k + n → M_task_Check_L5 a0 k (n : Int) = Rg (M_task_Check_L5_B a0) (M_task_Check_L5_E a0) (a0.Ops.drop n) n () := by
  intro k n 
  refine rg_of (L := fun k i (p : Unit) => M_task_Check_L5 a0 k i) hl (fun k n p y hy hn => ?_) (fun k p => ?_) k n ()
  · have h1 := lt_some hy
    have h2 := w64s hn
    simp only [M_task_Check_L5, M_task_Check_L5_B, List.length_map, decide_lt h1, sel, ix_at hy, ixv, h2]
  · simp only [M_task_Check_L5, M_task_Check_L5_E, List.length_map, decide_ge, sel]
theorem M_task_Check_L5_eq (a0 : GTask)  (hl : a0.Ops.length < 9223372036854775807) : M_task_Check_L5 a0 (((a0.Ops.map cGOp).length : Int).toNat + 1) 0 = Rg (M_task_Check_L5_B a0) (M_task_Check_L5_E a0) a0.Ops 0 () := by
  have h := M_task_Check_L5_rg a0 hl (a0.Ops.length + 1) 0  (Nat.zero_le _) (by omega)
  rw [List.length_map, Int.toNat_natCast]
  exact h
def M_task_Check_L6_B (_ : GTask) (_y200 : GOp) (_ : Int) : Unit → (Unit → Option (Er)) → Option (Er) := fun _ rc => ixv _y200 (fun y200 =>
       ob1 (M_task_named y200.Name) (fun z201 =>
        sel (!z201)
         (some (Er.no 8))
         (rc ())))
def M_task_Check_L6_E (_ : GTask) : Unit → Option (Er) := fun _ => some Er.nil
theorem M_task_Check_L6_rg (a0 : GTask) (hl : a0.Ops.length < 9223372036854775807) : ∀ (k n : Nat) , n ≤ a0.Ops.length → a0.Ops.length < k + n → M_task_Check_L6 a0 k (n : Int) = Rg (M_task_Check_L6_B a0) (M_task_Check_L6_E a0) (a0.Ops.drop n) n () := by
  intro k n 
  refine rg_of (L := fun k i (p : Unit) => M_task_Check_L6 a0 k i) hl (fun k n p y hy hn => ?_) (fun k p => ?_) k n ()
  · have h1 := lt_some hy
    have h2 := w64s hn
    simp only [M_task_Check_L6, M_task_Check_L6_B, List.length_map, decide_lt h1, sel, ix_at hy, ixv, h2]
  · simp only [M_task_Check_L6, M_task_Check_L6_E, List.length_map, decide_ge, sel]
theorem M_task_Check_L6_eq (a0 : GTask)  (hl : a0.Ops.length < 9223372036854775807) : M_task_Check_L6 a0 (((a0.Ops.map cGOp).length : Int).toNat + 1) 0 = Rg (M_task_Check_L6_B a0) (M_task_Check_L6_E a0) a0.Ops 0 () := by
  have h := M_task_Check_L6_rg a0 hl (a0.Ops.length + 1) 0  (Nat.zero_le _) (by omega)
  rw [List.length_map, Int.toNat_natCast]
  exact h
def M_g_silent_L1_B (y102 : Fact) (_ : Int) (v106 : Int) : ((List (List Fact))) → (((List (List Fact))) → Option (List (List Fact))) → Option (List (List Fact)) := fun v107 rc => sel (v106 != y102.2)
       (grd ((v107.length + 1) * 24 ≤ 140737488355328) (rc ((v107 ++ [[(y102.1, v106)]]))))
       (rc (v107))
def M_g_silent_L1_E (_ : Fact) (_ : Int) : ((List (List Fact))) → Option (List (List Fact)) := fun v107 => some v107
theorem M_g_silent_L1_rg (y102 : Fact) (y103 : Int) {m : Nat} (hm : y103 = (m : Int)) (hl : m < 9223372036854775807) : ∀ (k n : Nat) (v107 : List (List Fact)), n ≤ m → m < k + n → M_g_silent_L1 y102 y103 k (n : Int) v107 = Rn (M_g_silent_L1_B y102 y103) (M_g_silent_L1_E y102 y103) (m - n) n v107 := by
  intro k n v107
  refine rn_of (L := fun k i (p : ((List (List Fact)))) => match p with | v107 => M_g_silent_L1 y102 y103 k i v107) hl (fun k n p hn => ?_) (fun k p => ?_) k n v107
  · have h2 := w64s (Nat.lt_trans hn hl)
    simp only [M_g_silent_L1, M_g_silent_L1_B, hm, decide_lt hn, sel, h2]
  · simp only [M_g_silent_L1, M_g_silent_L1_E, hm, decide_ge, sel]
theorem M_g_silent_L1_eq (y102 : Fact) (y103 : Int) (v107 : List (List Fact)) {m : Nat} (hm : y103 = (m : Int)) (hl : m < 9223372036854775807) : M_g_silent_L1 y102 y103 ((y103).toNat + 1) 0 v107 = Rn (M_g_silent_L1_B y102 y103) (M_g_silent_L1_E y102 y103) m 0 v107 := by
  have h := M_g_silent_L1_rg y102 y103 hm hl (m + 1) 0 v107 (Nat.zero_le _) (by omega)
  have e : (y103).toNat = m := by rw [hm, Int.toNat_natCast]
  rw [e]
  exact h
def M_g_silent_L2_B (a0 : List Int) (_ : GEffect) (_y102 : Fact) (_ : Int) : ((List (List Fact))) → (((List (List Fact))) → Option (List (List Fact))) → Option (List (List Fact)) := fun v91 rc => ob1 (ixv _y102 (fun y102 =>
        ix a0 y102.1 (fun y103 =>
         M_g_silent_L1 y102 y103 ((y103).toNat + 1) 0 v91)) : Option (List (List Fact)))
       (fun v100 => rc (v100))
def M_g_silent_L2_E (_ : List Int) (_ : GEffect) : ((List (List Fact))) → Option (List (List Fact)) := fun v91 => some v91
theorem M_g_silent_L2_rg (a0 : List Int) (a1 : GEffect) (hl : a1.When.length < 9223372036854775807) : ∀ (k n : Nat) (v91 : List (List Fact)), n ≤ a1.When.length → a1.When.length < k + n → M_g_silent_L2 a0 a1 k (n : Int) v91 = Rg (M_g_silent_L2_B a0 a1) (M_g_silent_L2_E a0 a1) (a1.When.drop n) n v91 := by
  intro k n v91
  refine rg_of (L := fun k i (p : ((List (List Fact)))) => match p with | v91 => M_g_silent_L2 a0 a1 k i v91) hl (fun k n p y hy hn => ?_) (fun k p => ?_) k n v91
  · have h1 := lt_some hy
    have h2 := w64s hn
    simp only [M_g_silent_L2, M_g_silent_L2_B, List.length_map, decide_lt h1, sel, ix_at hy, ixv, h2]
  · simp only [M_g_silent_L2, M_g_silent_L2_E, List.length_map, decide_ge, sel]
theorem M_g_silent_L2_eq (a0 : List Int) (a1 : GEffect) (v91 : List (List Fact)) (hl : a1.When.length < 9223372036854775807) : M_g_silent_L2 a0 a1 (((a1.When.map cF).length : Int).toNat + 1) 0 v91 = Rg (M_g_silent_L2_B a0 a1) (M_g_silent_L2_E a0 a1) a1.When 0 v91 := by
  have h := M_g_silent_L2_rg a0 a1 hl (a1.When.length + 1) 0 v91 (Nat.zero_le _) (by omega)
  rw [List.length_map, Int.toNat_natCast]
  exact h
def M_p_valid_L1_B (a0 : List Fact) (_y7 : Fact) (v5 : Int) : Unit → (Unit → Option (Bool)) → Option (Bool) := fun _ rc => ixv _y7 (fun y7 =>
       sel (decide (y7.1 < 0))
        (some false)
        (sel (decide (y7.2 < 0))
          (some false)
          (sel (decide (v5 > 0))
            (ix a0 (IntKind.i64.wrap (v5 - 1)) (fun y8 =>
              sel (decide (y8.1 ≥ y7.1))
               (some false)
               (rc ())))
            (rc ()))))
def M_p_valid_L1_E (_ : List Fact) : Unit → Option (Bool) := fun _ => some true
theorem M_p_valid_L1_rg (a0 : List Fact) (hl : a0.length < 9223372036854775807) : ∀ (k n : Nat) , n ≤ a0.length → a0.length < k + n → M_p_valid_L1 a0 k (n : Int) = Rg (M_p_valid_L1_B a0) (M_p_valid_L1_E a0) (a0.drop n) n () := by
  intro k n 
  refine rg_of (L := fun k i (p : Unit) => M_p_valid_L1 a0 k i) hl (fun k n p y hy hn => ?_) (fun k p => ?_) k n ()
  · have h1 := lt_some hy
    have h2 := w64s hn
    simp only [M_p_valid_L1, M_p_valid_L1_B, List.length_map, decide_lt h1, sel, ix_at hy, ixv, h2]
  · simp only [M_p_valid_L1, M_p_valid_L1_E, List.length_map, decide_ge, sel]
theorem M_p_valid_L1_eq (a0 : List Fact)  (hl : a0.length < 9223372036854775807) : M_p_valid_L1 a0 (((a0.map cF).length : Int).toNat + 1) 0 = Rg (M_p_valid_L1_B a0) (M_p_valid_L1_E a0) a0 0 () := by
  have h := M_p_valid_L1_rg a0 hl (a0.length + 1) 0  (Nat.zero_le _) (by omega)
  rw [List.length_map, Int.toNat_natCast]
  exact h
def M_p_Make_L1_B (_ : List Fact) (_y15 : Fact) (_ : Int) : Unit → (Unit → Option (Unit ⊕ ((List Fact) × Er))) → Option (Unit ⊕ ((List Fact) × Er)) := fun _ rc => ixv _y15 (fun y15 =>
       sel (decide (y15.1 < 0))
        (some (.inr ([], (Er.no 1))))
        (sel (decide (y15.2 < 0))
          (some (.inr ([], (Er.no 1))))
          (rc ())))
def M_p_Make_L1_E (_ : List Fact) : Unit → Option (Unit ⊕ ((List Fact) × Er)) := fun _ => some (.inl ())
theorem M_p_Make_L1_rg (a0 : List Fact) (hl : a0.length < 9223372036854775807) : ∀ (k n : Nat) , n ≤ a0.length → a0.length < k + n → M_p_Make_L1 a0 k (n : Int) = Rg (M_p_Make_L1_B a0) (M_p_Make_L1_E a0) (a0.drop n) n () := by
  intro k n 
  refine rg_of (L := fun k i (p : Unit) => M_p_Make_L1 a0 k i) hl (fun k n p y hy hn => ?_) (fun k p => ?_) k n ()
  · have h1 := lt_some hy
    have h2 := w64s hn
    simp only [M_p_Make_L1, M_p_Make_L1_B, List.length_map, decide_lt h1, sel, ix_at hy, ixv, h2]
  · simp only [M_p_Make_L1, M_p_Make_L1_E, List.length_map, decide_ge, sel]
theorem M_p_Make_L1_eq (a0 : List Fact)  (hl : a0.length < 9223372036854775807) : M_p_Make_L1 a0 (((a0.map cF).length : Int).toNat + 1) 0 = Rg (M_p_Make_L1_B a0) (M_p_Make_L1_E a0) a0 0 () := by
  have h := M_p_Make_L1_rg a0 hl (a0.length + 1) 0  (Nat.zero_le _) (by omega)
  rw [List.length_map, Int.toNat_natCast]
  exact h
def M_s_CompareFunc_Fact_L1_B (_ : List Fact) (a1 : List Fact) (a2 : Fact → Fact → Option Int) (_y24 : Fact) (v22 : Int) : Unit → (Unit → Option (Unit ⊕ Int)) → Option (Unit ⊕ Int) := fun _ rc => ixv _y24 (fun y24 =>
       sel (decide (v22 ≥ ((a1.map cF).length : Int)))
        (some (.inr 1))
        (ix a1 v22 (fun y25 =>
          ob1 (a2 y24 y25) (fun z26 =>
           sel (z26 != 0)
            (some (.inr z26))
            (rc ())))))
def M_s_CompareFunc_Fact_L1_E (_ : List Fact) (_ : List Fact) (_ : Fact → Fact → Option Int) : Unit → Option (Unit ⊕ Int) := fun _ => some (.inl ())
theorem M_s_CompareFunc_Fact_L1_rg (a0 : List Fact) (a1 : List Fact) (a2 : Fact → Fact → Option Int) (hl : a0.length < 9223372036854775807) : ∀ (k n : Nat) , n ≤ a0.length → a0.length < k + n → M_s_CompareFunc_Fact_L1 a0 a1 a2 k (n : Int) = Rg (M_s_CompareFunc_Fact_L1_B a0 a1 a2) (M_s_CompareFunc_Fact_L1_E a0 a1 a2) (a0.drop n) n () := by
  intro k n 
  refine rg_of (L := fun k i (p : Unit) => M_s_CompareFunc_Fact_L1 a0 a1 a2 k i) hl (fun k n p y hy hn => ?_) (fun k p => ?_) k n ()
  · have h1 := lt_some hy
    have h2 := w64s hn
    simp only [M_s_CompareFunc_Fact_L1, M_s_CompareFunc_Fact_L1_B, List.length_map, decide_lt h1, sel, ix_at hy, ixv, h2]
  · simp only [M_s_CompareFunc_Fact_L1, M_s_CompareFunc_Fact_L1_E, List.length_map, decide_ge, sel]
theorem M_s_CompareFunc_Fact_L1_eq (a0 : List Fact) (a1 : List Fact) (a2 : Fact → Fact → Option Int)  (hl : a0.length < 9223372036854775807) : M_s_CompareFunc_Fact_L1 a0 a1 a2 (((a0.map cF).length : Int).toNat + 1) 0 = Rg (M_s_CompareFunc_Fact_L1_B a0 a1 a2) (M_s_CompareFunc_Fact_L1_E a0 a1 a2) a0 0 () := by
  have h := M_s_CompareFunc_Fact_L1_rg a0 a1 a2 hl (a0.length + 1) 0  (Nat.zero_le _) (by omega)
  rw [List.length_map, Int.toNat_natCast]
  exact h
def M_cmp_Or_int_L1_B (_ : List Int) (_y6 : Int) (_ : Int) : Unit → (Unit → Option (Int)) → Option (Int) := fun _ rc => ixv _y6 (fun y6 =>
       sel (y6 != 0)
        (some y6)
        (rc ()))
def M_cmp_Or_int_L1_E (_ : List Int) : Unit → Option (Int) := fun _ => some 0
theorem M_cmp_Or_int_L1_rg (a0 : List Int) (hl : a0.length < 9223372036854775807) : ∀ (k n : Nat) , n ≤ a0.length → a0.length < k + n → M_cmp_Or_int_L1 a0 k (n : Int) = Rg (M_cmp_Or_int_L1_B a0) (M_cmp_Or_int_L1_E a0) (a0.drop n) n () := by
  intro k n 
  refine rg_of (L := fun k i (p : Unit) => M_cmp_Or_int_L1 a0 k i) hl (fun k n p y hy hn => ?_) (fun k p => ?_) k n ()
  · have h1 := lt_some hy
    have h2 := w64s hn
    simp only [M_cmp_Or_int_L1, M_cmp_Or_int_L1_B, List.length_map, decide_lt h1, sel, ix_at hy, ixv, h2]
  · simp only [M_cmp_Or_int_L1, M_cmp_Or_int_L1_E, List.length_map, decide_ge, sel]
theorem M_cmp_Or_int_L1_eq (a0 : List Int)  (hl : a0.length < 9223372036854775807) : M_cmp_Or_int_L1 a0 (((a0.map cI).length : Int).toNat + 1) 0 = Rg (M_cmp_Or_int_L1_B a0) (M_cmp_Or_int_L1_E a0) a0 0 () := by
  have h := M_cmp_Or_int_L1_rg a0 hl (a0.length + 1) 0  (Nat.zero_le _) (by omega)
  rw [List.length_map, Int.toNat_natCast]
  exact h
def M_g_join_L1_B (_ : List (List Fact)) (g : Nat) (y153 : List Fact) (_y173 : List Fact) (_ : Int) : ((List (List Fact)) × (List (List Fact))) → (((List (List Fact)) × (List (List Fact))) → Option (((List (List Fact)) × (List (List Fact))) ⊕ ((List (List Fact)) × Er))) → Option (((List (List Fact)) × (List (List Fact))) ⊕ ((List (List Fact)) × Er)) := fun (v170, v171) rc => ixv _y173 (fun y173 =>
       ob2 (M_p_Join y153 y173) (fun z174 z175 =>
        sel (!z175)
         (rc (v170, v171))
         (grd (v170.length ≤ 140737488355328) (ob2 (M_s_BinarySearchFunc_Fact g v170 z174 M_g_compare) (fun z176 z177 =>
           sel z177
            (rc (v170, v171))
            (sel (((v171.length : Nat) : Int) == 1024)
              (some (.inr ([], (Er.no 5))))
              (ob1 (M_insertL v170 z176 [z174]) (fun z178 =>
                grd ((v171.length + 1) * 24 ≤ 140737488355328) (rc (z178, (v171 ++ [z174])))))))))))
def M_g_join_L1_E (_ : List (List Fact)) (_ : Nat) (_ : List Fact) : ((List (List Fact)) × (List (List Fact))) → Option (((List (List Fact)) × (List (List Fact))) ⊕ ((List (List Fact)) × Er)) := fun (v170, v171) => some (.inl (v170, v171))
theorem M_g_join_L1_rg (a1 : List (List Fact)) (g : Nat) (y153 : List Fact) (hl : a1.length < 9223372036854775807) : ∀ (k n : Nat) (v170 : List (List Fact)) (v171 : List (List Fact)), n ≤ a1.length → a1.length < k + n → M_g_join_L1 a1 g y153 k (n : Int) v170 v171 = Rg (M_g_join_L1_B a1 g y153) (M_g_join_L1_E a1 g y153) (a1.drop n) n (v170, v171) := by
  intro k n v170 v171
  refine rg_of (L := fun k i (p : ((List (List Fact)) × (List (List Fact)))) => match p with | (v170, v171) => M_g_join_L1 a1 g y153 k i v170 v171) hl (fun k n p y hy hn => ?_) (fun k p => ?_) k n (v170, v171)
  · have h1 := lt_some hy
    have h2 := w64s hn
    simp only [M_g_join_L1, M_g_join_L1_B, List.length_map, decide_lt h1, sel, ix_at hy, ixv, h2]
  · simp only [M_g_join_L1, M_g_join_L1_E, List.length_map, decide_ge, sel]
theorem M_g_join_L1_eq (a1 : List (List Fact)) (g : Nat) (y153 : List Fact) (v170 : List (List Fact)) (v171 : List (List Fact)) (hl : a1.length < 9223372036854775807) : M_g_join_L1 a1 g y153 (((a1.map cL_cF).length : Int).toNat + 1) 0 v170 v171 = Rg (M_g_join_L1_B a1 g y153) (M_g_join_L1_E a1 g y153) a1 0 (v170, v171) := by
  have h := M_g_join_L1_rg a1 g y153 hl (a1.length + 1) 0 v170 v171 (Nat.zero_le _) (by omega)
  rw [List.length_map, Int.toNat_natCast]
  exact h
def M_g_join_L2_B (_ : List (List Fact)) (a1 : List (List Fact)) (g : Nat) (_y153 : List Fact) (_ : Int) : ((List (List Fact)) × (List (List Fact))) → (((List (List Fact)) × (List (List Fact))) → Option ((List (List Fact)) × Er)) → Option ((List (List Fact)) × Er) := fun (v119, v120) rc => ob1 (ixv _y153 (fun y153 =>
        M_g_join_L1 a1 g y153 ((((a1.map cL_cF).length : Int)).toNat + 1) 0 v119 v120) : Option (((List (List Fact)) × (List (List Fact))) ⊕ ((List (List Fact)) × Er)))
       (osum
       (fun (v148, v149) => rc (v148, v149))
       (fun (r150, r151) => some (r150, r151)))
def M_g_join_L2_E (_ : List (List Fact)) (_ : List (List Fact)) (_ : Nat) : ((List (List Fact)) × (List (List Fact))) → Option ((List (List Fact)) × Er) := fun (_, v120) => grd (v120.length ≤ 140737488355328) (some (v120, Er.nil))
theorem M_g_join_L2_rg (a0 : List (List Fact)) (a1 : List (List Fact)) (g : Nat) (hl : a0.length < 9223372036854775807) : ∀ (k n : Nat) (v119 : List (List Fact)) (v120 : List (List Fact)), n ≤ a0.length → a0.length < k + n → M_g_join_L2 a0 a1 g k (n : Int) v119 v120 = Rg (M_g_join_L2_B a0 a1 g) (M_g_join_L2_E a0 a1 g) (a0.drop n) n (v119, v120) := by
  intro k n v119 v120
  refine rg_of (L := fun k i (p : ((List (List Fact)) × (List (List Fact)))) => match p with | (v119, v120) => M_g_join_L2 a0 a1 g k i v119 v120) hl (fun k n p y hy hn => ?_) (fun k p => ?_) k n (v119, v120)
  · have h1 := lt_some hy
    have h2 := w64s hn
    simp only [M_g_join_L2, M_g_join_L2_B, List.length_map, decide_lt h1, sel, ix_at hy, ixv, h2]
  · simp only [M_g_join_L2, M_g_join_L2_E, List.length_map, decide_ge, sel]
theorem M_g_join_L2_eq (a0 : List (List Fact)) (a1 : List (List Fact)) (g : Nat) (v119 : List (List Fact)) (v120 : List (List Fact)) (hl : a0.length < 9223372036854775807) : M_g_join_L2 a0 a1 g (((a0.map cL_cF).length : Int).toNat + 1) 0 v119 v120 = Rg (M_g_join_L2_B a0 a1 g) (M_g_join_L2_E a0 a1 g) a0 0 (v119, v120) := by
  have h := M_g_join_L2_rg a0 a1 g hl (a0.length + 1) 0 v119 v120 (Nat.zero_le _) (by omega)
  rw [List.length_map, Int.toNat_natCast]
  exact h
def M_g_cases_L1_B (_ : GOp) (a2 : Fact) (_y18 : GEffect) (_ : Int) : ((List GEffect)) → (((List GEffect)) → Option (List GEffect)) → Option (List GEffect) := fun v16 rc => ixv _y18 (fun y18 =>
       sel (y18.Var == a2.1)
        (grd ((v16.length + 1) * 40 ≤ 140737488355328) (rc ((v16 ++ [y18]))))
        (rc (v16)))
def M_g_cases_L1_E (_ : GOp) (_ : Fact) : ((List GEffect)) → Option (List GEffect) := fun v16 => some v16
theorem M_g_cases_L1_rg (a1 : GOp) (a2 : Fact) (hl : a1.Effs.length < 9223372036854775807) : ∀ (k n : Nat) (v16 : List GEffect), n ≤ a1.Effs.length → a1.Effs.length < k + n → M_g_cases_L1 a1 a2 k (n : Int) v16 = Rg (M_g_cases_L1_B a1 a2) (M_g_cases_L1_E a1 a2) (a1.Effs.drop n) n v16 := by
  intro k n v16
  refine rg_of (L := fun k i (p : ((List GEffect))) => match p with | v16 => M_g_cases_L1 a1 a2 k i v16) hl (fun k n p y hy hn => ?_) (fun k p => ?_) k n v16
  · have h1 := lt_some hy
    have h2 := w64s hn
    simp only [M_g_cases_L1, M_g_cases_L1_B, List.length_map, decide_lt h1, sel, ix_at hy, ixv, h2]
  · simp only [M_g_cases_L1, M_g_cases_L1_E, List.length_map, decide_ge, sel]
theorem M_g_cases_L1_eq (a1 : GOp) (a2 : Fact) (v16 : List GEffect) (hl : a1.Effs.length < 9223372036854775807) : M_g_cases_L1 a1 a2 (((a1.Effs.map cGEffect).length : Int).toNat + 1) 0 v16 = Rg (M_g_cases_L1_B a1 a2) (M_g_cases_L1_E a1 a2) a1.Effs 0 v16 := by
  have h := M_g_cases_L1_rg a1 a2 hl (a1.Effs.length + 1) 0 v16 (Nat.zero_le _) (by omega)
  rw [List.length_map, Int.toNat_natCast]
  exact h
def M_g_cases_L2_B (a0 : List Int) (a2 : Fact) (g : Nat) (v9 : List GEffect) (v780 : Int) (v913 : Int) : ((List (List Fact))) → (((List (List Fact))) → Option ((List (List Fact)) ⊕ ((List (List Fact)) × Er))) → Option ((List (List Fact)) ⊕ ((List (List Fact)) × Er)) := fun v912 rc => ixn v9 ((IntKind.i64.wrap (v780 + 1)).toNat + (v913).toNat) (fun y915 =>
       grd (0 ≤ v913) (grd (v913 < ((v9.length - (IntKind.i64.wrap (v780 + 1)).toNat : Nat) : Int)) (sel (y915.Val == a2.2)
        (rc (v912))
        (ob2 (M_g_silent a0 y915) (fun z916 z917 =>
          erM z917
           (ob2 (M_g_join g v912 z916) (fun z919 z920 =>
             erM z920
              (rc (z919))
              (fun e921 => some (.inr ([], (Er.no e921))))))
           (fun e918 => some (.inr ([], (Er.no e918)))))))))
def M_g_cases_L2_E (_ : List Int) (_ : Fact) (_ : Nat) (_ : List GEffect) (_ : Int) : ((List (List Fact))) → Option ((List (List Fact)) ⊕ ((List (List Fact)) × Er)) := fun v912 => some (.inl v912)
theorem M_g_cases_L2_rg (a0 : List Int) (a2 : Fact) (g : Nat) (v9 : List GEffect) (v780 : Int) {m : Nat} (hm : ((v9.length - (IntKind.i64.wrap (v780 + 1)).toNat : Nat) : Int) = (m : Int)) (hl : m < 9223372036854775807) : ∀ (k n : Nat) (v912 : List (List Fact)), n ≤ m → m < k + n → M_g_cases_L2 a0 a2 g v9 v780 k v912 (n : Int) = Rn (M_g_cases_L2_B a0 a2 g v9 v780) (M_g_cases_L2_E a0 a2 g v9 v780) (m - n) n v912 := by
  intro k n v912
  refine rn_of (L := fun k i (p : ((List (List Fact)))) => match p with | v912 => M_g_cases_L2 a0 a2 g v9 v780 k v912 i) hl (fun k n p hn => ?_) (fun k p => ?_) k n v912
  · have h2 := w64s (Nat.lt_trans hn hl)
    simp only [M_g_cases_L2, M_g_cases_L2_B, hm, decide_lt hn, sel, h2]
  · simp only [M_g_cases_L2, M_g_cases_L2_E, hm, decide_ge, sel]
theorem M_g_cases_L2_eq (a0 : List Int) (a2 : Fact) (g : Nat) (v9 : List GEffect) (v780 : Int) (v912 : List (List Fact)) {m : Nat} (hm : ((v9.length - (IntKind.i64.wrap (v780 + 1)).toNat : Nat) : Int) = (m : Int)) (hl : m < 9223372036854775807) : M_g_cases_L2 a0 a2 g v9 v780 ((((v9.length - (IntKind.i64.wrap (v780 + 1)).toNat : Nat) : Int)).toNat + 1) v912 0 = Rn (M_g_cases_L2_B a0 a2 g v9 v780) (M_g_cases_L2_E a0 a2 g v9 v780) m 0 v912 := by
  have h := M_g_cases_L2_rg a0 a2 g v9 v780 hm hl (m + 1) 0 v912 (Nat.zero_le _) (by omega)
  have e : (((v9.length - (IntKind.i64.wrap (v780 + 1)).toNat : Nat) : Int)).toNat = m := by rw [hm, Int.toNat_natCast]
  rw [e]
  exact h
def M_g_cases_L3_B (_ : List (List Fact)) (_y931 : List Fact) (_ : Int) : ((List (List Fact))) → (((List (List Fact))) → Option ((List (List Fact)) ⊕ ((List (List Fact)) × Er))) → Option ((List (List Fact)) ⊕ ((List (List Fact)) × Er)) := fun v929 rc => ixv _y931 (fun y931 =>
       grd (v929.length ≤ 140737488355328) (ob1 (M_s_ContainsFunc_Fact v929 (M_g_cases_1 y931)) (fun z932 =>
        sel (!z932)
         (grd ((v929.length + 1) * 24 ≤ 140737488355328) (rc ((v929 ++ [y931]))))
         (rc (v929)))))
def M_g_cases_L3_E (_ : List (List Fact)) : ((List (List Fact))) → Option ((List (List Fact)) ⊕ ((List (List Fact)) × Er)) := fun v929 => some (.inl v929)
theorem M_g_cases_L3_rg (v892 : List (List Fact)) (hl : v892.length < 9223372036854775807) : ∀ (k n : Nat) (v929 : List (List Fact)), n ≤ v892.length → v892.length < k + n → M_g_cases_L3 v892 k (n : Int) v929 = Rg (M_g_cases_L3_B v892) (M_g_cases_L3_E v892) (v892.drop n) n v929 := by
  intro k n v929
  refine rg_of (L := fun k i (p : ((List (List Fact)))) => match p with | v929 => M_g_cases_L3 v892 k i v929) hl (fun k n p y hy hn => ?_) (fun k p => ?_) k n v929
  · have h1 := lt_some hy
    have h2 := w64s hn
    simp only [M_g_cases_L3, M_g_cases_L3_B, List.length_map, decide_lt h1, sel, ix_at hy, ixv, h2]
  · simp only [M_g_cases_L3, M_g_cases_L3_E, List.length_map, decide_ge, sel]
theorem M_g_cases_L3_eq (v892 : List (List Fact)) (v929 : List (List Fact)) (hl : v892.length < 9223372036854775807) : M_g_cases_L3 v892 (((v892.map cL_cF).length : Int).toNat + 1) 0 v929 = Rg (M_g_cases_L3_B v892) (M_g_cases_L3_E v892) v892 0 v929 := by
  have h := M_g_cases_L3_rg v892 hl (v892.length + 1) 0 v929 (Nat.zero_le _) (by omega)
  rw [List.length_map, Int.toNat_natCast]
  exact h
def M_g_preimage_L1_B (a0 : GTask) (_ : List Fact) (g : Nat) (y7 : GOp) (_y47 : Fact) (v44 : Int) : ((List (List (List Fact)))) → (((List (List (List Fact)))) → Option ((List (List (List Fact))) ⊕ ((List (List Fact)) × Er))) → Option ((List (List (List Fact))) ⊕ ((List (List Fact)) × Er)) := fun v45 rc => ixv _y47 (fun y47 =>
       ob2 (M_g_cases g a0.Vars y7 y47) (fun z48 z49 =>
        erM z49
         (ixn v45 ((v44).toNat) (fun _ =>
           grd (v44 < ((v45.length : Nat) : Int)) (rc ((v45.set ((v44).toNat) z48)))))
         (fun e50 => some (.inr ([], (Er.no e50))))))
def M_g_preimage_L1_E (_ : GTask) (_ : List Fact) (_ : Nat) (_ : GOp) : ((List (List (List Fact)))) → Option ((List (List (List Fact))) ⊕ ((List (List Fact)) × Er)) := fun v45 => some (.inl v45)
theorem M_g_preimage_L1_rg (a0 : GTask) (a2 : List Fact) (g : Nat) (y7 : GOp) (hl : a2.length < 9223372036854775807) : ∀ (k n : Nat) (v45 : List (List (List Fact))), n ≤ a2.length → a2.length < k + n → M_g_preimage_L1 a0 a2 g y7 k (n : Int) v45 = Rg (M_g_preimage_L1_B a0 a2 g y7) (M_g_preimage_L1_E a0 a2 g y7) (a2.drop n) n v45 := by
  intro k n v45
  refine rg_of (L := fun k i (p : ((List (List (List Fact))))) => match p with | v45 => M_g_preimage_L1 a0 a2 g y7 k i v45) hl (fun k n p y hy hn => ?_) (fun k p => ?_) k n v45
  · have h1 := lt_some hy
    have h2 := w64s hn
    simp only [M_g_preimage_L1, M_g_preimage_L1_B, List.length_map, decide_lt h1, sel, ix_at hy, ixv, h2]
  · simp only [M_g_preimage_L1, M_g_preimage_L1_E, List.length_map, decide_ge, sel]
theorem M_g_preimage_L1_eq (a0 : GTask) (a2 : List Fact) (g : Nat) (y7 : GOp) (v45 : List (List (List Fact))) (hl : a2.length < 9223372036854775807) : M_g_preimage_L1 a0 a2 g y7 (((a2.map cF).length : Int).toNat + 1) 0 v45 = Rg (M_g_preimage_L1_B a0 a2 g y7) (M_g_preimage_L1_E a0 a2 g y7) a2 0 v45 := by
  have h := M_g_preimage_L1_rg a0 a2 g y7 hl (a2.length + 1) 0 v45 (Nat.zero_le _) (by omega)
  rw [List.length_map, Int.toNat_natCast]
  exact h
def M_g_preimage_L2_B (g : Nat) (v28 : List (List (List Fact))) (v64 : Int) : ((List (List Fact))) → (((List (List Fact))) → Option ((List (List Fact)) × Er)) → Option ((List (List Fact)) × Er) := fun v63 rc => ixn v28 ((v64).toNat) (fun y66 =>
       grd (0 ≤ v64) (grd (v64 < ((v28.length : Nat) : Int)) (ob2 (M_g_join g v63 y66) (fun z67 z68 =>
        erM z68
         (rc (z67))
         (fun e69 => some ([], (Er.no e69)))))))
def M_g_preimage_L2_E (_ : Nat) (_ : List (List (List Fact))) : ((List (List Fact))) → Option ((List (List Fact)) × Er) := fun v63 => some (v63, Er.nil)
theorem M_g_preimage_L2_rg (g : Nat) (v28 : List (List (List Fact))) {m : Nat} (hm : ((v28.length : Nat) : Int) = (m : Int)) (hl : m < 9223372036854775807) : ∀ (k n : Nat) (v63 : List (List Fact)), n ≤ m → m < k + n → M_g_preimage_L2 g v28 k v63 (n : Int) = Rn (M_g_preimage_L2_B g v28) (M_g_preimage_L2_E g v28) (m - n) n v63 := by
  intro k n v63
  refine rn_of (L := fun k i (p : ((List (List Fact)))) => match p with | v63 => M_g_preimage_L2 g v28 k v63 i) hl (fun k n p hn => ?_) (fun k p => ?_) k n v63
  · have h2 := w64s (Nat.lt_trans hn hl)
    simp only [M_g_preimage_L2, M_g_preimage_L2_B, hm, decide_lt hn, sel, h2]
  · simp only [M_g_preimage_L2, M_g_preimage_L2_E, hm, decide_ge, sel]
theorem M_g_preimage_L2_eq (g : Nat) (v28 : List (List (List Fact))) (v63 : List (List Fact)) {m : Nat} (hm : ((v28.length : Nat) : Int) = (m : Int)) (hl : m < 9223372036854775807) : M_g_preimage_L2 g v28 ((((v28.length : Nat) : Int)).toNat + 1) v63 0 = Rn (M_g_preimage_L2_B g v28) (M_g_preimage_L2_E g v28) m 0 v63 := by
  have h := M_g_preimage_L2_rg g v28 hm hl (m + 1) 0 v63 (Nat.zero_le _) (by omega)
  have e : (((v28.length : Nat) : Int)).toNat = m := by rw [hm, Int.toNat_natCast]
  rw [e]
  exact h
def M_p_find_L1_B (_ : List Fact) (a1 : Int) (_y6 : Fact) (_ : Int) : Unit → (Unit → Option (Int)) → Option (Int) := fun _ rc => ixv _y6 (fun y6 =>
       sel (y6.1 == a1)
        (some y6.2)
        (rc ()))
def M_p_find_L1_E (_ : List Fact) (_ : Int) : Unit → Option (Int) := fun _ => some (-1)
theorem M_p_find_L1_rg (a0 : List Fact) (a1 : Int) (hl : a0.length < 9223372036854775807) : ∀ (k n : Nat) , n ≤ a0.length → a0.length < k + n → M_p_find_L1 a0 a1 k (n : Int) = Rg (M_p_find_L1_B a0 a1) (M_p_find_L1_E a0 a1) (a0.drop n) n () := by
  intro k n 
  refine rg_of (L := fun k i (p : Unit) => M_p_find_L1 a0 a1 k i) hl (fun k n p y hy hn => ?_) (fun k p => ?_) k n ()
  · have h1 := lt_some hy
    have h2 := w64s hn
    simp only [M_p_find_L1, M_p_find_L1_B, List.length_map, decide_lt h1, sel, ix_at hy, ixv, h2]
  · simp only [M_p_find_L1, M_p_find_L1_E, List.length_map, decide_ge, sel]
theorem M_p_find_L1_eq (a0 : List Fact) (a1 : Int)  (hl : a0.length < 9223372036854775807) : M_p_find_L1 a0 a1 (((a0.map cF).length : Int).toNat + 1) 0 = Rg (M_p_find_L1_B a0 a1) (M_p_find_L1_E a0 a1) a0 0 () := by
  have h := M_p_find_L1_rg a0 a1 hl (a0.length + 1) 0  (Nat.zero_le _) (by omega)
  rw [List.length_map, Int.toNat_natCast]
  exact h
def M_p_contains_L1_B (a0 : List Fact) (_ : List Fact) (_y8 : Fact) (_ : Int) : Unit → (Unit → Option (Bool)) → Option (Bool) := fun _ rc => ixv _y8 (fun y8 =>
       ob1 (M_p_find a0 y8.1) (fun z9 =>
        sel (z9 != y8.2)
         (some false)
         (rc ())))
def M_p_contains_L1_E (_ : List Fact) (_ : List Fact) : Unit → Option (Bool) := fun _ => some true
theorem M_p_contains_L1_rg (a0 : List Fact) (a1 : List Fact) (hl : a1.length < 9223372036854775807) : ∀ (k n : Nat) , n ≤ a1.length → a1.length < k + n → M_p_contains_L1 a0 a1 k (n : Int) = Rg (M_p_contains_L1_B a0 a1) (M_p_contains_L1_E a0 a1) (a1.drop n) n () := by
  intro k n 
  refine rg_of (L := fun k i (p : Unit) => M_p_contains_L1 a0 a1 k i) hl (fun k n p y hy hn => ?_) (fun k p => ?_) k n ()
  · have h1 := lt_some hy
    have h2 := w64s hn
    simp only [M_p_contains_L1, M_p_contains_L1_B, List.length_map, decide_lt h1, sel, ix_at hy, ixv, h2]
  · simp only [M_p_contains_L1, M_p_contains_L1_E, List.length_map, decide_ge, sel]
theorem M_p_contains_L1_eq (a0 : List Fact) (a1 : List Fact)  (hl : a1.length < 9223372036854775807) : M_p_contains_L1 a0 a1 (((a1.map cF).length : Int).toNat + 1) 0 = Rg (M_p_contains_L1_B a0 a1) (M_p_contains_L1_E a0 a1) a1 0 () := by
  have h := M_p_contains_L1_rg a0 a1 hl (a1.length + 1) 0  (Nat.zero_le _) (by omega)
  rw [List.length_map, Int.toNat_natCast]
  exact h
def M_p_Minimal_L1_B (_ : List (List Fact)) (v115 : Int) (y149 : List Fact) (_y174 : List Fact) (v172 : Int) : Unit → (Unit → Option (Bool)) → Option (Bool) := fun _ rc => ixv _y174 (fun y174 =>
       sel (v115 != v172)
        (ob1 (M_p_valid y174) (fun z175 =>
          sel z175
           (ob1 (M_p_contains y149 y174) (fun z176 =>
             sel z176
              (sel (decide (((y174.map cF).length : Int) < ((y149.map cF).length : Int)))
                (some false)
                (sel (decide (v172 < v115))
                  (some false)
                  (rc ())))
              (rc ())))
           (rc ())))
        (rc ()))
def M_p_Minimal_L1_E (_ : List (List Fact)) (_ : Int) (_ : List Fact) : Unit → Option (Bool) := fun _ => some true
theorem M_p_Minimal_L1_rg (a0 : List (List Fact)) (v115 : Int) (y149 : List Fact) (hl : a0.length < 9223372036854775807) : ∀ (k n : Nat) , n ≤ a0.length → a0.length < k + n → M_p_Minimal_L1 a0 v115 y149 k (n : Int) = Rg (M_p_Minimal_L1_B a0 v115 y149) (M_p_Minimal_L1_E a0 v115 y149) (a0.drop n) n () := by
  intro k n 
  refine rg_of (L := fun k i (p : Unit) => M_p_Minimal_L1 a0 v115 y149 k i) hl (fun k n p y hy hn => ?_) (fun k p => ?_) k n ()
  · have h1 := lt_some hy
    have h2 := w64s hn
    simp only [M_p_Minimal_L1, M_p_Minimal_L1_B, List.length_map, decide_lt h1, sel, ix_at hy, ixv, h2]
  · simp only [M_p_Minimal_L1, M_p_Minimal_L1_E, List.length_map, decide_ge, sel]
theorem M_p_Minimal_L1_eq (a0 : List (List Fact)) (v115 : Int) (y149 : List Fact)  (hl : a0.length < 9223372036854775807) : M_p_Minimal_L1 a0 v115 y149 (((a0.map cL_cF).length : Int).toNat + 1) 0 = Rg (M_p_Minimal_L1_B a0 v115 y149) (M_p_Minimal_L1_E a0 v115 y149) a0 0 () := by
  have h := M_p_Minimal_L1_rg a0 v115 y149 hl (a0.length + 1) 0  (Nat.zero_le _) (by omega)
  rw [List.length_map, Int.toNat_natCast]
  exact h
def M_p_Minimal_L2_B (a0 : List (List Fact)) (_y149 : List Fact) (v115 : Int) : ((List (List Fact))) → (((List (List Fact))) → Option (List (List Fact))) → Option (List (List Fact)) := fun v116 rc => ob1 (ixv _y149 (fun y149 =>
        ob1 (M_p_valid y149) (fun z150 =>
         sel (!z150)
          (some v116)
          (ob1 (M_p_Minimal_L1 a0 v115 y149 ((((a0.map cL_cF).length : Int)).toNat + 1) 0 : Option (Bool))
            (fun v163 => sel v163
               (ob1 (M_cloneF y149) (fun z177 =>
                 grd ((v116.length + 1) * 24 ≤ 140737488355328) (grd (z177.length ≤ 140737488355328) (some (v116 ++ [z177])))))
               (some v116))))) : Option (List (List Fact)))
       (fun v147 => rc (v147))
def M_p_Minimal_L2_E (_ : List (List Fact)) : ((List (List Fact))) → Option (List (List Fact)) := fun v116 => some v116
theorem M_p_Minimal_L2_rg (a0 : List (List Fact)) (hl : a0.length < 9223372036854775807) : ∀ (k n : Nat) (v116 : List (List Fact)), n ≤ a0.length → a0.length < k + n → M_p_Minimal_L2 a0 k (n : Int) v116 = Rg (M_p_Minimal_L2_B a0) (M_p_Minimal_L2_E a0) (a0.drop n) n v116 := by
  intro k n v116
  refine rg_of (L := fun k i (p : ((List (List Fact)))) => match p with | v116 => M_p_Minimal_L2 a0 k i v116) hl (fun k n p y hy hn => ?_) (fun k p => ?_) k n v116
  · have h1 := lt_some hy
    have h2 := w64s hn
    simp only [M_p_Minimal_L2, M_p_Minimal_L2_B, List.length_map, decide_lt h1, sel, ix_at hy, ixv, h2]
  · simp only [M_p_Minimal_L2, M_p_Minimal_L2_E, List.length_map, decide_ge, sel]
theorem M_p_Minimal_L2_eq (a0 : List (List Fact)) (v116 : List (List Fact)) (hl : a0.length < 9223372036854775807) : M_p_Minimal_L2 a0 (((a0.map cL_cF).length : Int).toNat + 1) 0 v116 = Rg (M_p_Minimal_L2_B a0) (M_p_Minimal_L2_E a0) a0 0 v116 := by
  have h := M_p_Minimal_L2_rg a0 hl (a0.length + 1) 0 v116 (Nat.zero_le _) (by omega)
  rw [List.length_map, Int.toNat_natCast]
  exact h
def M_g_Regress_L1_B (_ : List (List Fact)) (v14 : Int) : ((List (List Fact))) → (((List (List Fact))) → Option ((List (List Fact)) × Er)) → Option ((List (List Fact)) × Er) := fun v15 rc => ixn v15 ((v14).toNat) (fun y17 =>
       ob1 (M_cloneF y17) (fun z18 =>
        ixn v15 ((v14).toNat) (fun _ =>
         grd (0 ≤ v14) (grd (v14 < ((v15.length : Nat) : Int)) (grd (z18.length ≤ 140737488355328) (rc ((v15.set ((v14).toNat) z18))))))))
def M_g_Regress_L1_E (_ : List (List Fact)) : ((List (List Fact))) → Option ((List (List Fact)) × Er) := fun v15 => grd (v15.length ≤ 140737488355328) (some (v15, Er.nil))
theorem M_g_Regress_L1_rg (z4 : List (List Fact)) {m : Nat} (hm : ((z4.length : Nat) : Int) = (m : Int)) (hl : m < 9223372036854775807) : ∀ (k n : Nat) (v15 : List (List Fact)), n ≤ m → m < k + n → M_g_Regress_L1 z4 k (n : Int) v15 = Rn (M_g_Regress_L1_B z4) (M_g_Regress_L1_E z4) (m - n) n v15 := by
  intro k n v15
  refine rn_of (L := fun k i (p : ((List (List Fact)))) => match p with | v15 => M_g_Regress_L1 z4 k i v15) hl (fun k n p hn => ?_) (fun k p => ?_) k n v15
  · have h2 := w64s (Nat.lt_trans hn hl)
    simp only [M_g_Regress_L1, M_g_Regress_L1_B, hm, decide_lt hn, sel, h2]
  · simp only [M_g_Regress_L1, M_g_Regress_L1_E, hm, decide_ge, sel]
theorem M_g_Regress_L1_eq (z4 : List (List Fact)) (v15 : List (List Fact)) {m : Nat} (hm : ((z4.length : Nat) : Int) = (m : Int)) (hl : m < 9223372036854775807) : M_g_Regress_L1 z4 ((((z4.length : Nat) : Int)).toNat + 1) 0 v15 = Rn (M_g_Regress_L1_B z4) (M_g_Regress_L1_E z4) m 0 v15 := by
  have h := M_g_Regress_L1_rg z4 hm hl (m + 1) 0 v15 (Nat.zero_le _) (by omega)
  have e : (((z4.length : Nat) : Int)).toNat = m := by rw [hm, Int.toNat_natCast]
  rw [e]
  exact h
def M_b_State_L1_B (a0 : List Int) (a1 : List Int) (_y10 : Int) (v8 : Int) : Unit → (Unit → Option (Bool)) → Option (Bool) := fun _ rc => ixv _y10 (fun y10 =>
       sel (decide (y10 < 0))
        (some false)
        (ix a1 v8 (fun y11 =>
          ix a0 v8 (fun y12 =>
           sel (decide (y11 ≥ y12))
            (some false)
            (rc ())))))
def M_b_State_L1_E (_ : List Int) (_ : List Int) : Unit → Option (Bool) := fun _ => some true
theorem M_b_State_L1_rg (a0 : List Int) (a1 : List Int) (hl : a1.length < 9223372036854775807) : ∀ (k n : Nat) , n ≤ a1.length → a1.length < k + n → M_b_State_L1 a0 a1 k (n : Int) = Rg (M_b_State_L1_B a0 a1) (M_b_State_L1_E a0 a1) (a1.drop n) n () := by
  intro k n 
  refine rg_of (L := fun k i (p : Unit) => M_b_State_L1 a0 a1 k i) hl (fun k n p y hy hn => ?_) (fun k p => ?_) k n ()
  · have h1 := lt_some hy
    have h2 := w64s hn
    simp only [M_b_State_L1, M_b_State_L1_B, List.length_map, decide_lt h1, sel, ix_at hy, ixv, h2]
  · simp only [M_b_State_L1, M_b_State_L1_E, List.length_map, decide_ge, sel]
theorem M_b_State_L1_eq (a0 : List Int) (a1 : List Int)  (hl : a1.length < 9223372036854775807) : M_b_State_L1 a0 a1 (((a1.map cI).length : Int).toNat + 1) 0 = Rg (M_b_State_L1_B a0 a1) (M_b_State_L1_E a0 a1) a1 0 () := by
  have h := M_b_State_L1_rg a0 a1 hl (a1.length + 1) 0  (Nat.zero_le _) (by omega)
  rw [List.length_map, Int.toNat_natCast]
  exact h
def M_b_Proper_L1_B (a0 : List Int) (a1 : List Fact) (_y9 : Fact) (v7 : Int) : Unit → (Unit → Option (Bool)) → Option (Bool) := fun _ rc => ixv _y9 (fun y9 =>
       sel (decide (y9.1 < 0))
        (some false)
        (sel (decide (y9.1 ≥ ((a0.map cI).length : Int)))
          (some false)
          (sel (decide (y9.2 < 0))
            (some false)
            (ix a0 y9.1 (fun y10 =>
              sel (decide (y9.2 ≥ y10))
               (some false)
               (sel (decide (v7 > 0))
                 (ix a1 (IntKind.i64.wrap (v7 - 1)) (fun y11 =>
                   sel (decide (y11.1 ≥ y9.1))
                    (some false)
                    (rc ())))
                 (rc ())))))))
def M_b_Proper_L1_E (_ : List Int) (_ : List Fact) : Unit → Option (Bool) := fun _ => some true
theorem M_b_Proper_L1_rg (a0 : List Int) (a1 : List Fact) (hl : a1.length < 9223372036854775807) : ∀ (k n : Nat) , n ≤ a1.length → a1.length < k + n → M_b_Proper_L1 a0 a1 k (n : Int) = Rg (M_b_Proper_L1_B a0 a1) (M_b_Proper_L1_E a0 a1) (a1.drop n) n () := by
  intro k n 
  refine rg_of (L := fun k i (p : Unit) => M_b_Proper_L1 a0 a1 k i) hl (fun k n p y hy hn => ?_) (fun k p => ?_) k n ()
  · have h1 := lt_some hy
    have h2 := w64s hn
    simp only [M_b_Proper_L1, M_b_Proper_L1_B, List.length_map, decide_lt h1, sel, ix_at hy, ixv, h2]
  · simp only [M_b_Proper_L1, M_b_Proper_L1_E, List.length_map, decide_ge, sel]
theorem M_b_Proper_L1_eq (a0 : List Int) (a1 : List Fact)  (hl : a1.length < 9223372036854775807) : M_b_Proper_L1 a0 a1 (((a1.map cF).length : Int).toNat + 1) 0 = Rg (M_b_Proper_L1_B a0 a1) (M_b_Proper_L1_E a0 a1) a1 0 () := by
  have h := M_b_Proper_L1_rg a0 a1 hl (a1.length + 1) 0  (Nat.zero_le _) (by omega)
  rw [List.length_map, Int.toNat_natCast]
  exact h
def M_b_operator_L1_B (a1 : GOp) (v11 : Int) : Unit → (Unit → Option (Unit ⊕ Bool)) → Option (Unit ⊕ Bool) := fun _ rc => sel (decide ((byt a1.Name v11) < 32))
       (grd (0 ≤ v11) (grd (v11 < (a1.Name.size : Int)) (some (.inr false))))
       (grd (0 ≤ v11) (grd (v11 < (a1.Name.size : Int)) (sel (decide ((byt a1.Name v11) > 126))
         (some (.inr false))
         (rc ()))))
def M_b_operator_L1_E (_ : GOp) : Unit → Option (Unit ⊕ Bool) := fun _ => some (.inl ())
theorem M_b_operator_L1_rg (a1 : GOp) {m : Nat} (hm : (a1.Name.size : Int) = (m : Int)) (hl : m < 9223372036854775807) : ∀ (k n : Nat) , n ≤ m → m < k + n → M_b_operator_L1 a1 k (n : Int) = Rn (M_b_operator_L1_B a1) (M_b_operator_L1_E a1) (m - n) n () := by
  intro k n 
  refine rn_of (L := fun k i (p : Unit) => M_b_operator_L1 a1 k i) hl (fun k n p hn => ?_) (fun k p => ?_) k n ()
  · have h2 := w64s (Nat.lt_trans hn hl)
    simp only [M_b_operator_L1, M_b_operator_L1_B, hm, decide_lt hn, sel, h2]
  · simp only [M_b_operator_L1, M_b_operator_L1_E, hm, decide_ge, sel]
theorem M_b_operator_L1_eq (a1 : GOp)  {m : Nat} (hm : (a1.Name.size : Int) = (m : Int)) (hl : m < 9223372036854775807) : M_b_operator_L1 a1 (((a1.Name.size : Int)).toNat + 1) 0 = Rn (M_b_operator_L1_B a1) (M_b_operator_L1_E a1) m 0 () := by
  have h := M_b_operator_L1_rg a1 hm hl (m + 1) 0  (Nat.zero_le _) (by omega)
  have e : ((a1.Name.size : Int)).toNat = m := by rw [hm, Int.toNat_natCast]
  rw [e]
  exact h
def M_b_operator_L2_B (a0 : List Int) (_ : GOp) (_y22 : GEffect) (_ : Int) : Unit → (Unit → Option (Bool)) → Option (Bool) := fun _ rc => ixv _y22 (fun y22 =>
       ob1 (M_b_Proper a0 y22.When) (fun z23 =>
        sel (!z23)
         (some false)
         (ob1 (M_b_Proper a0 [(y22.Var, y22.Val)]) (fun z24 =>
           sel (!z24)
            (some false)
            (rc ())))))
def M_b_operator_L2_E (_ : List Int) (_ : GOp) : Unit → Option (Bool) := fun _ => some true
theorem M_b_operator_L2_rg (a0 : List Int) (a1 : GOp) (hl : a1.Effs.length < 9223372036854775807) : ∀ (k n : Nat) , n ≤ a1.Effs.length → a1.Effs.length < k + n → M_b_operator_L2 a0 a1 k (n : Int) = Rg (M_b_operator_L2_B a0 a1) (M_b_operator_L2_E a0 a1) (a1.Effs.drop n) n () := by
  intro k n 
  refine rg_of (L := fun k i (p : Unit) => M_b_operator_L2 a0 a1 k i) hl (fun k n p y hy hn => ?_) (fun k p => ?_) k n ()
  · have h1 := lt_some hy
    have h2 := w64s hn
    simp only [M_b_operator_L2, M_b_operator_L2_B, List.length_map, decide_lt h1, sel, ix_at hy, ixv, h2]
  · simp only [M_b_operator_L2, M_b_operator_L2_E, List.length_map, decide_ge, sel]
theorem M_b_operator_L2_eq (a0 : List Int) (a1 : GOp)  (hl : a1.Effs.length < 9223372036854775807) : M_b_operator_L2 a0 a1 (((a1.Effs.map cGEffect).length : Int).toNat + 1) 0 = Rg (M_b_operator_L2_B a0 a1) (M_b_operator_L2_E a0 a1) a1.Effs 0 () := by
  have h := M_b_operator_L2_rg a0 a1 hl (a1.Effs.length + 1) 0  (Nat.zero_le _) (by omega)
  rw [List.length_map, Int.toNat_natCast]
  exact h
def M_b_Good_L1_B (_ : GTask) (_y16 : Int) (_ : Int) : Unit → (Unit → Option (Unit ⊕ Bool)) → Option (Unit ⊕ Bool) := fun _ rc => ixv _y16 (fun y16 =>
       sel (decide (y16 < 1))
        (some (.inr false))
        (sel (decide (y16 > 64))
          (some (.inr false))
          (rc ())))
def M_b_Good_L1_E (_ : GTask) : Unit → Option (Unit ⊕ Bool) := fun _ => some (.inl ())
theorem M_b_Good_L1_rg (a0 : GTask) (hl : a0.Vars.length < 9223372036854775807) : ∀ (k n : Nat) , n ≤ a0.Vars.length → a0.Vars.length < k + n → M_b_Good_L1 a0 k (n : Int) = Rg (M_b_Good_L1_B a0) (M_b_Good_L1_E a0) (a0.Vars.drop n) n () := by
  intro k n 
  refine rg_of (L := fun k i (p : Unit) => M_b_Good_L1 a0 k i) hl (fun k n p y hy hn => ?_) (fun k p => ?_) k n ()
  · have h1 := lt_some hy
    have h2 := w64s hn
    simp only [M_b_Good_L1, M_b_Good_L1_B, List.length_map, decide_lt h1, sel, ix_at hy, ixv, h2]
  · simp only [M_b_Good_L1, M_b_Good_L1_E, List.length_map, decide_ge, sel]
theorem M_b_Good_L1_eq (a0 : GTask)  (hl : a0.Vars.length < 9223372036854775807) : M_b_Good_L1 a0 (((a0.Vars.map cI).length : Int).toNat + 1) 0 = Rg (M_b_Good_L1_B a0) (M_b_Good_L1_E a0) a0.Vars 0 () := by
  have h := M_b_Good_L1_rg a0 hl (a0.Vars.length + 1) 0  (Nat.zero_le _) (by omega)
  rw [List.length_map, Int.toNat_natCast]
  exact h
def M_b_Good_L2_B (a0 : GTask) (_y30 : GOp) (_ : Int) : Unit → (Unit → Option (Bool)) → Option (Bool) := fun _ rc => ixv _y30 (fun y30 =>
       ob1 (M_b_operator a0.Vars y30) (fun z31 =>
        sel (!z31)
         (some false)
         (rc ())))
def M_b_Good_L2_E (_ : GTask) : Unit → Option (Bool) := fun _ => some true
theorem M_b_Good_L2_rg (a0 : GTask) (hl : a0.Ops.length < 9223372036854775807) : ∀ (k n : Nat) , n ≤ a0.Ops.length → a0.Ops.length < k + n → M_b_Good_L2 a0 k (n : Int) = Rg (M_b_Good_L2_B a0) (M_b_Good_L2_E a0) (a0.Ops.drop n) n () := by
  intro k n 
  refine rg_of (L := fun k i (p : Unit) => M_b_Good_L2 a0 k i) hl (fun k n p y hy hn => ?_) (fun k p => ?_) k n ()
  · have h1 := lt_some hy
    have h2 := w64s hn
    simp only [M_b_Good_L2, M_b_Good_L2_B, List.length_map, decide_lt h1, sel, ix_at hy, ixv, h2]
  · simp only [M_b_Good_L2, M_b_Good_L2_E, List.length_map, decide_ge, sel]
theorem M_b_Good_L2_eq (a0 : GTask)  (hl : a0.Ops.length < 9223372036854775807) : M_b_Good_L2 a0 (((a0.Ops.map cGOp).length : Int).toNat + 1) 0 = Rg (M_b_Good_L2_B a0) (M_b_Good_L2_E a0) a0.Ops 0 () := by
  have h := M_b_Good_L2_rg a0 hl (a0.Ops.length + 1) 0  (Nat.zero_le _) (by omega)
  rw [List.length_map, Int.toNat_natCast]
  exact h
def M_b_Many_L1_B (_ : List Int) (a1 : Int) (_y8 : Int) (_ : Int) : ((Int)) → (((Int)) → Option (Int)) → Option (Int) := fun v5 rc => ixv _y8 (fun y8 =>
       sel (decide ((IntKind.i64.wrap (v5 * (min (max y8 0) (IntKind.i64.wrap (a1 + 1))))) > a1))
        (some (IntKind.i64.wrap (a1 + 1)))
        (rc ((IntKind.i64.wrap (v5 * (min (max y8 0) (IntKind.i64.wrap (a1 + 1))))))))
def M_b_Many_L1_E (_ : List Int) (_ : Int) : ((Int)) → Option (Int) := fun v5 => some v5
theorem M_b_Many_L1_rg (a0 : List Int) (a1 : Int) (hl : a0.length < 9223372036854775807) : ∀ (k n : Nat) (v5 : Int), n ≤ a0.length → a0.length < k + n → M_b_Many_L1 a0 a1 k v5 (n : Int) = Rg (M_b_Many_L1_B a0 a1) (M_b_Many_L1_E a0 a1) (a0.drop n) n v5 := by
  intro k n v5
  refine rg_of (L := fun k i (p : ((Int))) => match p with | v5 => M_b_Many_L1 a0 a1 k v5 i) hl (fun k n p y hy hn => ?_) (fun k p => ?_) k n v5
  · have h1 := lt_some hy
    have h2 := w64s hn
    simp only [M_b_Many_L1, M_b_Many_L1_B, List.length_map, decide_lt h1, sel, ix_at hy, ixv, h2]
  · simp only [M_b_Many_L1, M_b_Many_L1_E, List.length_map, decide_ge, sel]
theorem M_b_Many_L1_eq (a0 : List Int) (a1 : Int) (v5 : Int) (hl : a0.length < 9223372036854775807) : M_b_Many_L1 a0 a1 (((a0.map cI).length : Int).toNat + 1) v5 0 = Rg (M_b_Many_L1_B a0 a1) (M_b_Many_L1_E a0 a1) a0 0 v5 := by
  have h := M_b_Many_L1_rg a0 a1 hl (a0.length + 1) 0 v5 (Nat.zero_le _) (by omega)
  rw [List.length_map, Int.toNat_natCast]
  exact h
def M_b_Small_L1_B (_ : GTask) (_y16 : GOp) (_ : Int) : Unit → (Unit → Option (Unit ⊕ Bool)) → Option (Unit ⊕ Bool) := fun _ rc => ixv _y16 (fun y16 =>
       sel (decide (((y16.Effs.map cGEffect).length : Int) > 8))
        (some (.inr false))
        (rc ()))
def M_b_Small_L1_E (_ : GTask) : Unit → Option (Unit ⊕ Bool) := fun _ => some (.inl ())
theorem M_b_Small_L1_rg (a0 : GTask) (hl : a0.Ops.length < 9223372036854775807) : ∀ (k n : Nat) , n ≤ a0.Ops.length → a0.Ops.length < k + n → M_b_Small_L1 a0 k (n : Int) = Rg (M_b_Small_L1_B a0) (M_b_Small_L1_E a0) (a0.Ops.drop n) n () := by
  intro k n 
  refine rg_of (L := fun k i (p : Unit) => M_b_Small_L1 a0 k i) hl (fun k n p y hy hn => ?_) (fun k p => ?_) k n ()
  · have h1 := lt_some hy
    have h2 := w64s hn
    simp only [M_b_Small_L1, M_b_Small_L1_B, List.length_map, decide_lt h1, sel, ix_at hy, ixv, h2]
  · simp only [M_b_Small_L1, M_b_Small_L1_E, List.length_map, decide_ge, sel]
theorem M_b_Small_L1_eq (a0 : GTask)  (hl : a0.Ops.length < 9223372036854775807) : M_b_Small_L1 a0 (((a0.Ops.map cGOp).length : Int).toNat + 1) 0 = Rg (M_b_Small_L1_B a0) (M_b_Small_L1_E a0) a0.Ops 0 () := by
  have h := M_b_Small_L1_rg a0 hl (a0.Ops.length + 1) 0  (Nat.zero_le _) (by omega)
  rw [List.length_map, Int.toNat_natCast]
  exact h
def M_b_Facts_L1_B (_ : List Fact) (a1 : List Fact) (_y8 : Fact) (v6 : Int) : Unit → (Unit → Option (Bool)) → Option (Bool) := fun _ rc => ixv _y8 (fun y8 =>
       ix a1 v6 (fun y9 =>
        sel (!(y8.1 == y9.1 && y8.2 == y9.2))
         (some false)
         (rc ())))
def M_b_Facts_L1_E (_ : List Fact) (_ : List Fact) : Unit → Option (Bool) := fun _ => some true
theorem M_b_Facts_L1_rg (a0 : List Fact) (a1 : List Fact) (hl : a0.length < 9223372036854775807) : ∀ (k n : Nat) , n ≤ a0.length → a0.length < k + n → M_b_Facts_L1 a0 a1 k (n : Int) = Rg (M_b_Facts_L1_B a0 a1) (M_b_Facts_L1_E a0 a1) (a0.drop n) n () := by
  intro k n 
  refine rg_of (L := fun k i (p : Unit) => M_b_Facts_L1 a0 a1 k i) hl (fun k n p y hy hn => ?_) (fun k p => ?_) k n ()
  · have h1 := lt_some hy
    have h2 := w64s hn
    simp only [M_b_Facts_L1, M_b_Facts_L1_B, List.length_map, decide_lt h1, sel, ix_at hy, ixv, h2]
  · simp only [M_b_Facts_L1, M_b_Facts_L1_E, List.length_map, decide_ge, sel]
theorem M_b_Facts_L1_eq (a0 : List Fact) (a1 : List Fact)  (hl : a0.length < 9223372036854775807) : M_b_Facts_L1 a0 a1 (((a0.map cF).length : Int).toNat + 1) 0 = Rg (M_b_Facts_L1_B a0 a1) (M_b_Facts_L1_E a0 a1) a0 0 () := by
  have h := M_b_Facts_L1_rg a0 a1 hl (a0.length + 1) 0  (Nat.zero_le _) (by omega)
  rw [List.length_map, Int.toNat_natCast]
  exact h
end Go.Proofs.Yteapjpgabdegnaa.Am
/- Plain laws of tasks: facts, states, operators; what Check and Good answer. -/
namespace Go.Proofs.Yteapjpgabdegnaa.Am
open Go.RowKit
section
variable {α β : Type}
theorem ix_getD {l : List α} {i : Int} {d : α} {k : α → Option β} (h0 : 0 ≤ i) (h1 : i < l.length) : ix l i k = k (l.getD i.toNat d) := by
  obtain ⟨n, rfl⟩ : ∃ n : Nat, i = n := ⟨i.toNat, by omega⟩
  have hn : n < l.length := by omega
  rw [ix_at (List.getElem?_eq_getElem hn), Int.toNat_natCast]
  simp [hn]
end
/-- short lists -/
abbrev Sh {α : Type} (l : List α) : Prop := l.length ≤ 140737488355328
theorem Sh.lt {α : Type} {l : List α} (h : Sh l) : l.length < 9223372036854775807 := Nat.lt_of_le_of_lt h (by decide)
/-- proper facts -/
def propF (vars : List Int) : Int → List Fact → Bool
  | _, [] => true
  | last, y :: r => decide (last < y.1 ∧ y.1 < vars.length ∧ 0 ≤ y.2 ∧ y.2 < vars.getD y.1.toNat 0) && propF vars y.1 r
theorem facts_loop (vars : List Int) (l : List Fact) : ∀ (r : List Fact) (i last : Int), -1 ≤ last → Rg (M_task_Facts_L1_B vars l) (M_task_Facts_L1_E vars l) r i last = some (propF vars last r)
  | [], _, _, _ => rfl
  | y :: r, i, last, hl => by
    rw [Rg, propF]
    simp only [M_task_Facts_L1_B, ixv, sel_dec, List.length_map]
    by_cases h1 : y.1 ≤ last
    · rw [if_pos h1, decide_eq_false (by omega)]; rfl
    · rw [if_neg h1]
      by_cases h2 : y.1 ≥ vars.length
      · rw [if_pos h2, decide_eq_false (by omega)]; rfl
      · rw [if_neg h2]
        by_cases h3 : y.2 < 0
        · rw [if_pos h3, decide_eq_false (by omega)]; rfl
        · rw [if_neg h3, ix_getD (d := 0) (by omega) (by omega)]
          by_cases h4 : y.2 ≥ vars.getD y.1.toNat 0
          · rw [if_pos h4, decide_eq_false (by omega)]; rfl
          · rw [if_neg h4, decide_eq_true (by omega), facts_loop vars l r (i + 1) y.1 (by omega)]; rfl
theorem facts_eq (vars : List Int) (l : List Fact) (hl : Sh l) : M_task_Facts vars l = some (propF vars (-1) l) := by
  rw [M_task_Facts, M_task_Facts_L1_eq _ _ _ hl.lt]
  exact facts_loop vars l l 0 (-1) (by omega)
/-- the last variable of the facts ahead -/
theorem proper_loop (vars : List Int) (l : List Fact) (hs : Sh l) : ∀ (r : List Fact) (n : Nat) (last : Int), l.drop n = r → n ≤ l.length → -1 ≤ last → (n = 0 → last = -1) → (∀ m, n = m + 1 → ∃ x, l[m]? = some x ∧ x.1 = last) → Rg (M_b_Proper_L1_B vars l) (M_b_Proper_L1_E vars l) r n () = some (propF vars last r)
  | [], _, _, _, _, _, _, _ => rfl
  | y :: r, n, last, hd, hn, hl, h0, hp => by
    rw [Rg, propF]
    have hlt : n < l.length := by
      rcases Nat.lt_or_ge n l.length with h | h
      · exact h
      · rw [List.drop_eq_nil_of_le h] at hd; cases hd
    have hy : l[n]? = some y := by
      have := congrArg (·[0]?) hd
      simpa [List.getElem?_drop] using this
    have hd' : l.drop (n + 1) = r := by
      have := congrArg List.tail hd
      simpa using this
    have hrec := proper_loop vars l hs r (n + 1) y.1 hd' hlt
    have hih : 0 ≤ y.1 → Rg (M_b_Proper_L1_B vars l) (M_b_Proper_L1_E vars l) r ((n : Int) + 1) () = some (propF vars y.1 r) := fun h => hrec (by omega) (by omega) (fun m hm => ⟨y, by rw [show m = n by omega]; exact hy, rfl⟩)
    simp only [M_b_Proper_L1_B, ixv, sel_dec, List.length_map]
    by_cases h1 : y.1 < 0
    · rw [if_pos h1, decide_eq_false (by omega)]; rfl
    · rw [if_neg h1]
      by_cases h2 : y.1 ≥ vars.length
      · rw [if_pos h2, decide_eq_false (by omega)]; rfl
      · rw [if_neg h2]
        by_cases h3 : y.2 < 0
        · rw [if_pos h3, decide_eq_false (by omega)]; rfl
        · rw [if_neg h3, ix_getD (d := 0) (by omega) (by omega)]
          by_cases h4 : y.2 ≥ vars.getD y.1.toNat 0
          · rw [if_pos h4, decide_eq_false (by omega)]; rfl
          · rw [if_neg h4]
            cases n with
            | zero =>
              have := h0 rfl
              rw [if_neg (by omega), decide_eq_true (by omega)]
              exact hih (by omega)
            | succ m =>
              obtain ⟨x, hx, hxl⟩ := hp m rfl
              rw [if_pos (by omega), w64 (by omega) (by have := hs; unfold Sh at this; omega), show (((m + 1 : Nat) : Int) - 1) = (m : Int) by omega, ix_at hx]
              by_cases h5 : x.1 ≥ y.1
              · rw [if_pos h5, decide_eq_false (by omega)]; rfl
              · rw [if_neg h5, decide_eq_true (by omega)]
                exact hih (by omega)
theorem proper_eq (vars : List Int) (l : List Fact) (hl : Sh l) : M_b_Proper vars l = some (propF vars (-1) l) := by
  rw [M_b_Proper, M_b_Proper_L1_eq _ _ hl.lt]
  exact proper_loop vars l hl l 0 (-1) rfl (Nat.zero_le _) (by omega) (fun _ => rfl) (fun m hm => by omega)
/-- proper states -/
def stateF : List Int → List Int → Bool
  | [], [] => true
  | n :: r, x :: s => decide (0 ≤ x ∧ x < n) && stateF r s
  | _, _ => false
theorem stateF_len : ∀ {v s : List Int}, v.length ≠ s.length → stateF v s = false
  | [], [], h => absurd rfl h
  | [], _ :: _, _ => rfl
  | _ :: _, [], _ => rfl
  | n :: r, x :: s, h => by rw [stateF, stateF_len (by simpa using h), Bool.and_false]
theorem drop_cons {α : Type} {l r : List α} {n : Nat} {y : α} (h : l.drop n = y :: r) : l[n]? = some y ∧ l.drop (n + 1) = r ∧ n < l.length := by
  have hlt : n < l.length := by
    rcases Nat.lt_or_ge n l.length with h' | h'
    · exact h'
    · rw [List.drop_eq_nil_of_le h'] at h; cases h
  refine ⟨?_, ?_, hlt⟩
  · have := congrArg (·[0]?) h
    simpa [List.getElem?_drop] using this
  · have := congrArg List.tail h
    simpa using this
theorem tproper_loop (vars l : List Int) : ∀ (r s : List Int) (n : Nat), l.drop n = r → vars.drop n = s → r.length = s.length → Rg (M_task_Proper_L1_B vars l) (M_task_Proper_L1_E vars l) r n () = some (stateF s r)
  | [], [], _, _, _, _ => rfl
  | [], _ :: _, _, _, _, h => by simp at h
  | _ :: _, [], _, _, _, h => by simp at h
  | y :: r, v :: s, n, h1, h2, h3 => by
    obtain ⟨a1, a2, _⟩ := drop_cons h1
    obtain ⟨b1, b2, _⟩ := drop_cons h2
    have ih := tproper_loop vars l r s (n + 1) a2 b2 (by simpa using h3)
    rw [Rg, stateF]
    simp only [M_task_Proper_L1_B, ixv, sel_dec, ix_at b1]
    by_cases c1 : y < 0
    · rw [if_pos c1, decide_eq_false (by omega)]; rfl
    · rw [if_neg c1]
      by_cases c2 : y ≥ v
      · rw [if_pos c2, decide_eq_false (by omega)]; rfl
      · rw [if_neg c2, decide_eq_true (by omega)]
        exact ih
theorem state_loop (vars l : List Int) : ∀ (r s : List Int) (n : Nat), l.drop n = r → vars.drop n = s → r.length = s.length → Rg (M_b_State_L1_B vars l) (M_b_State_L1_E vars l) r n () = some (stateF s r)
  | [], [], _, _, _, _ => rfl
  | [], _ :: _, _, _, _, h => by simp at h
  | _ :: _, [], _, _, _, h => by simp at h
  | y :: r, v :: s, n, h1, h2, h3 => by
    obtain ⟨a1, a2, _⟩ := drop_cons h1
    obtain ⟨b1, b2, _⟩ := drop_cons h2
    have ih := state_loop vars l r s (n + 1) a2 b2 (by simpa using h3)
    rw [Rg, stateF]
    simp only [M_b_State_L1_B, ixv, sel_dec, ix_at b1, ix_at a1]
    by_cases c1 : y < 0
    · rw [if_pos c1, decide_eq_false (by omega)]; rfl
    · rw [if_neg c1]
      by_cases c2 : y ≥ v
      · rw [if_pos c2, decide_eq_false (by omega)]; rfl
      · rw [if_neg c2, decide_eq_true (by omega)]
        exact ih
theorem bne_len (a b : Nat) : ((a : Int) != (b : Int)) = decide (a ≠ b) := by
  by_cases h : a = b
  · subst h; simp
  · have : ¬ ((a : Int) = (b : Int)) := by omega
    simp [h, this, bne]
theorem tproper_eq (vars l : List Int) (hl : Sh l) : M_task_Proper vars l = some (stateF vars l) := by
  rw [M_task_Proper, M_task_Proper_L1_eq _ _ hl.lt, List.length_map, List.length_map, bne_len, sel_dec]
  split
  · rename_i h; rw [stateF_len (fun e => h e.symm)]
  · rename_i h; exact tproper_loop vars l l vars 0 rfl rfl (by omega)
theorem state_eq (vars l : List Int) (hl : Sh l) : M_b_State vars l = some (stateF vars l) := by
  rw [M_b_State, M_b_State_L1_eq _ _ hl.lt, List.length_map, List.length_map, bne_len, sel_dec]
  split
  · rename_i h; rw [stateF_len (fun e => h e.symm)]
  · rename_i h; exact state_loop vars l l vars 0 rfl rfl (by omega)
/-- a loop that looks at each element -/
theorem rg_all {α γ : Type} {B : α → Int → Unit → (Unit → Option γ) → Option γ} {E : Unit → Option γ} {p : α → Bool} {c : Option γ} : ∀ {l : List α} {i : Int}, (∀ y ∈ l, ∀ i rc, B y i () rc = if p y = true then rc () else c) → Rg B E l i () = if l.all p = true then E () else c
  | [], _, _ => rfl
  | y :: r, i, h => by
    rw [Rg, h y (by simp), List.all_cons]
    cases hp : p y
    · simp
    · simp only [Bool.true_and, if_true]
      exact rg_all (fun z hz => h z (by simp [hz]))
theorem rn_all {γ : Type} {B : Int → Unit → (Unit → Option γ) → Option γ} {E : Unit → Option γ} {p : Nat → Bool} {c : Option γ} : ∀ {m n : Nat}, (∀ k, n ≤ k → k < n + m → ∀ rc, B k () rc = if p k = true then rc () else c) → Rn B E m n () = if (List.range' n m).all p = true then E () else c
  | 0, _, _ => rfl
  | m + 1, n, h => by
    rw [Rn, h n (Nat.le_refl _) (by omega), List.range'_succ, List.all_cons]
    cases hp : p n
    · simp
    · simp only [Bool.true_and, if_true]
      have := rn_all (m := m) (n := n + 1) (E := E) (fun k h1 h2 => h k (by omega) (by omega))
      exact this
def charF (c : UInt8) : Bool := decide (32 ≤ c.toNat ∧ c.toNat ≤ 126)
theorem byt_at (s : ByteArray) (k : Nat) (h : k < s.size) : ∃ c, (bl s)[k]? = some c ∧ byt s (k : Int) = (c.toNat : Int) := by
  have h' : k < (bl s).length := by rw [bl_len]; exact h
  exact ⟨(bl s)[k], List.getElem?_eq_getElem h', byt_bl s k h⟩
theorem range_bytes (s : ByteArray) (p : UInt8 → Bool) : (List.range' 0 s.size).all (fun k => match (bl s)[k]? with | some c => p c | none => false) = (bl s).all p := by
  rw [Bool.eq_iff_iff, List.all_eq_true, List.all_eq_true]
  constructor
  · intro h c hc
    obtain ⟨k, hk⟩ := List.getElem?_of_mem hc
    have hlt : k < s.size := by rw [← bl_len]; exact (List.getElem?_eq_some_iff.1 hk).1
    have := h k (by simp; exact hlt)
    rw [hk] at this
    exact this
  · intro h k hk
    have hlt : k < (bl s).length := by rw [bl_len]; simpa using hk
    rw [List.getElem?_eq_getElem hlt]
    exact h _ (List.getElem_mem hlt)
theorem named_eq (s : ByteArray) (hs : s.size ≤ 9223372036854775806) : M_task_named s = some ((bl s).all charF && decide (s.size ≤ 256)) := by
  rw [M_task_named, M_task_named_L1_eq _ rfl (by omega)]
  have := rn_all (γ := Bool) (B := M_task_named_L1_B s) (E := M_task_named_L1_E s) (p := fun k => match (bl s)[k]? with | some c => charF c | none => false) (c := some false) (m := s.size) (n := 0) (fun k _ hk rc => by
    obtain ⟨c, h1, h2⟩ := byt_at s k (by omega)
    have g1 : (0 : Int) ≤ (k : Int) := by omega
    have g2 : (k : Int) < (s.size : Int) := by omega
    simp only [M_task_named_L1_B, h1, h2, sel_dec, grd_t g1, grd_t g2]
    unfold charF
    by_cases c1 : (c.toNat : Int) < 32
    · rw [if_pos c1, if_neg (by simp; omega)]
    · rw [if_neg c1]
      by_cases c2 : (c.toNat : Int) > 126
      · rw [if_pos c2, if_neg (by simp; omega)]
      · rw [if_neg c2, if_pos (by simp; omega)])
  rw [show ((0 : Int)) = ((0 : Nat) : Int) from rfl, this, range_bytes]
  cases (bl s).all charF
  · rfl
  · by_cases h : s.size ≤ 256 <;> simp [M_task_named_L1_E, h] <;> omega
/-- what is asked of an operator -/
def effF (vars : List Int) (e : GEffect) : Bool := propF vars (-1) e.When && propF vars (-1) [(e.Var, e.Val)]
def opF (vars : List Int) (o : GOp) : Bool := decide (0 ≤ o.Cost ∧ o.Cost ≤ 1048576 ∧ o.Effs.length ≤ 64 ∧ o.Name.size ≤ 256) && (propF vars (-1) o.Pre && ((bl o.Name).all charF && o.Effs.all (effF vars)))
def goodF (t : GTask) : Bool := decide (t.Vars.length ≤ 64 ∧ t.Ops.length ≤ 4096) && (t.Vars.all (fun n => decide (1 ≤ n ∧ n ≤ 64)) && (stateF t.Vars t.Init && (propF t.Vars (-1) t.Goal && t.Ops.all (opF t.Vars))))
/-- sizes that the form of the statement grants -/
structure ShO (o : GOp) : Prop where
  name : o.Name.size ≤ 9223372036854775806
  pre : Sh o.Pre
  effs : Sh o.Effs
  when : ∀ e ∈ o.Effs, Sh e.When
structure ShT (t : GTask) : Prop where
  vars : Sh t.Vars
  init : Sh t.Init
  goal : Sh t.Goal
  ops : Sh t.Ops
  op : ∀ o ∈ t.Ops, ShO o
theorem two_checks {α : Type} {b1 b2 : Bool} {c x : Option α} : sel (!b1) c (sel (!b2) c x) = if (b1 && b2) = true then x else c := by cases b1 <;> cases b2 <;> rfl
theorem operator_eq (vars : List Int) (o : GOp) (ho : ShO o) : M_b_operator vars o = some (opF vars o) := by
  have hn := ho.name
  have e1 : M_b_operator_L1 o (((o.Name.size : Int)).toNat + 1) 0 = if (bl o.Name).all charF = true then some (.inl ()) else some (.inr false) := by
    rw [M_b_operator_L1_eq _ rfl (by omega)]
    have := rn_all (γ := Unit ⊕ Bool) (B := M_b_operator_L1_B o) (E := M_b_operator_L1_E o) (p := fun k => match (bl o.Name)[k]? with | some c => charF c | none => false) (c := some (.inr false)) (m := o.Name.size) (n := 0) (fun k _ hk rc => by
      obtain ⟨c, h1, h2⟩ := byt_at o.Name k (by omega)
      have g1 : (0 : Int) ≤ (k : Int) := by omega
      have g2 : (k : Int) < (o.Name.size : Int) := by omega
      simp only [M_b_operator_L1_B, h1, h2, sel_dec, grd_t g1, grd_t g2]
      unfold charF
      by_cases c1 : (c.toNat : Int) < 32
      · rw [if_pos c1, if_neg (by simp; omega)]
      · rw [if_neg c1]
        by_cases c2 : (c.toNat : Int) > 126
        · rw [if_pos c2, if_neg (by simp; omega)]
        · rw [if_neg c2, if_pos (by simp; omega)])
    rw [show ((0 : Int)) = ((0 : Nat) : Int) from rfl, this, range_bytes]
    rfl
  have e2 : M_b_operator_L2 vars o ((((o.Effs.map cGEffect).length : Int)).toNat + 1) 0 = some (o.Effs.all (effF vars)) := by
    rw [M_b_operator_L2_eq _ _ ho.effs.lt, rg_all (p := effF vars) (c := some false) (fun e he i rc => by
      simp only [M_b_operator_L2_B, ixv, proper_eq vars _ (ho.when e he), proper_eq vars [(e.Var, e.Val)] (by simp [Sh]), ob1_some, effF]
      exact two_checks)]
    cases o.Effs.all (effF vars) <;> rfl
  rw [M_b_operator, e1, e2, proper_eq _ _ ho.pre]
  unfold opF
  simp only [sel_dec, List.length_map, ob1_some]
  by_cases c1 : o.Cost < 0
  · rw [if_pos c1, decide_eq_false (by omega)]; rfl
  · rw [if_neg c1]
    by_cases c2 : o.Cost > 1048576
    · rw [if_pos c2, decide_eq_false (by omega)]; rfl
    · rw [if_neg c2]
      by_cases c3 : (o.Effs.length : Int) > 64
      · rw [if_pos c3, decide_eq_false (by omega)]; rfl
      · rw [if_neg c3]
        by_cases c4 : (o.Name.size : Int) > 256
        · rw [if_pos c4, decide_eq_false (by omega)]; rfl
        · rw [if_neg c4, decide_eq_true (by omega)]
          cases propF vars (-1) o.Pre
          · rfl
          · cases (bl o.Name).all charF <;> rfl
theorem good_eq (t : GTask) (ht : ShT t) : M_b_Good t = some (goodF t) := by
  have e1 : M_b_Good_L1 t ((((t.Vars.map cI).length : Int)).toNat + 1) 0 = if t.Vars.all (fun n => decide (1 ≤ n ∧ n ≤ 64)) = true then some (.inl ()) else some (.inr false) := by
    rw [M_b_Good_L1_eq _ ht.vars.lt, rg_all (p := fun n => decide (1 ≤ n ∧ n ≤ 64)) (c := some (.inr false)) (fun n _ i rc => by
      simp only [M_b_Good_L1_B, ixv, sel_dec]
      by_cases c1 : n < 1
      · rw [if_pos c1, if_neg (by simp; omega)]
      · rw [if_neg c1]
        by_cases c2 : n > 64
        · rw [if_pos c2, if_neg (by simp; omega)]
        · rw [if_neg c2, if_pos (by simp; omega)])]
    rfl
  have e2 : M_b_Good_L2 t ((((t.Ops.map cGOp).length : Int)).toNat + 1) 0 = some (t.Ops.all (opF t.Vars)) := by
    rw [M_b_Good_L2_eq _ ht.ops.lt, rg_all (p := opF t.Vars) (c := some false) (fun o ho i rc => by
      simp only [M_b_Good_L2_B, ixv, operator_eq t.Vars o (ht.op o ho), ob1_some]
      cases opF t.Vars o <;> rfl)]
    cases t.Ops.all (opF t.Vars) <;> rfl
  rw [M_b_Good, e1, e2, state_eq _ _ ht.init, proper_eq _ _ ht.goal]
  unfold goodF
  simp only [sel_dec, List.length_map, ob1_some]
  by_cases c1 : (t.Vars.length : Int) > 64
  · rw [if_pos c1, decide_eq_false (by omega)]; rfl
  · rw [if_neg c1]
    by_cases c2 : (t.Ops.length : Int) > 4096
    · rw [if_pos c2, decide_eq_false (by omega)]; rfl
    · rw [if_neg c2, decide_eq_true (by omega)]
      cases t.Vars.all (fun n => decide (1 ≤ n ∧ n ≤ 64))
      · rfl
      · cases stateF t.Vars t.Init
        · rfl
        · cases propF t.Vars (-1) t.Goal <;> rfl
end Go.Proofs.Yteapjpgabdegnaa.Am
/- Plain laws of tasks: what task.Check answers. -/
namespace Go.Proofs.Yteapjpgabdegnaa.Am
open Go.RowKit
/-- a loop that looks for an element -/
theorem idx_eq {l : List (List Fact)} {f : List Fact → Option Bool} {p : List Fact → Bool} (hl : Sh l) (h : ∀ y ∈ l, f y = some (p y)) : ∃ z, M_s_IndexFunc_Fact l f = some z ∧ (0 ≤ z ↔ l.any p = true) := by
  rw [M_s_IndexFunc_Fact, M_s_IndexFunc_Fact_L1_eq _ _ hl.lt]
  have key : ∀ (r : List (List Fact)) (n : Nat), (∀ y ∈ r, f y = some (p y)) → ∃ z, Rg (M_s_IndexFunc_Fact_L1_B l f) (M_s_IndexFunc_Fact_L1_E l f) r n () = some z ∧ (0 ≤ z ↔ r.any p = true) := by
    intro r
    induction r with
    | nil => intro n _; exact ⟨-1, rfl, by simp⟩
    | cons y r ih =>
      intro n hr
      rw [Rg]
      simp only [M_s_IndexFunc_Fact_L1_B, ixv, hr y (by simp), ob1_some]
      cases hp : p y
      · obtain ⟨z, h1, h2⟩ := ih (n + 1) (fun w hw => hr w (by simp [hw]))
        exact ⟨z, h1, by rw [h2, List.any_cons, hp, Bool.false_or]⟩
      · exact ⟨n, rfl, by simp [hp]⟩
  exact key l 0 h
theorem containsFunc_eq {l : List (List Fact)} {f : List Fact → Option Bool} {p : List Fact → Bool} (hl : Sh l) (h : ∀ y ∈ l, f y = some (p y)) : M_s_ContainsFunc_Fact l f = some (l.any p) := by
  obtain ⟨z, h1, h2⟩ := idx_eq hl h
  rw [M_s_ContainsFunc_Fact, h1, ob1_some]
  congr 1
  rw [Bool.eq_iff_iff, decide_eq_true_iff, ge_iff_le, h2]
/-- all conditions of a task -/
def condsO (o : GOp) : List (List Fact) := o.Pre :: o.Effs.map (·.When)
def condsF (t : GTask) : List (List Fact) := t.Goal :: t.Ops.flatMap condsO
theorem conds1 (o : GOp) : ∀ (r : List GEffect) (i : Int) (v : List (List Fact)), v.length + r.length ≤ 1000000 → Rg (M_task_conditions_L1_B o) (M_task_conditions_L1_E o) r i v = some (v ++ r.map (·.When))
  | [], _, v, _ => by simp [Rg, M_task_conditions_L1_E]
  | e :: r, i, v, h => by
    simp only [List.length_cons] at h
    rw [Rg]
    simp only [M_task_conditions_L1_B, ixv, grd_t (show (v.length + 1) * 24 ≤ 140737488355328 by omega)]
    rw [conds1 o r (i + 1) (v ++ [e.When]) (by simp; omega)]
    simp
theorem conds2 (t : GTask) : ∀ (r : List GOp) (i : Int) (v : List (List Fact)), (∀ o ∈ r, o.Effs.length ≤ 64) → v.length + r.length * 65 ≤ 1000000 → Rg (M_task_conditions_L2_B t) (M_task_conditions_L2_E t) r i v = some (v ++ r.flatMap condsO)
  | [], _, v, _, h => by
    simp only [List.length_nil] at h
    simp [Rg, M_task_conditions_L2_E, grd_t (show v.length ≤ 140737488355328 by omega)]
  | o :: r, i, v, hr, h => by
    simp only [List.length_cons] at h
    have ho := hr o (by simp)
    rw [Rg]
    simp only [M_task_conditions_L2_B, ixv, grd_t (show (v.length + 1) * 24 ≤ 140737488355328 by omega)]
    rw [M_task_conditions_L1_eq o _ (by omega), conds1 o o.Effs 0 (v ++ [o.Pre]) (by simp; omega), ob1_some, conds2 t r (i + 1) _ (fun q hq => hr q (by simp [hq])) (by simp; omega)]
    simp [condsO]
theorem conds_eq (t : GTask) (h1 : t.Ops.length ≤ 4096) (h2 : ∀ o ∈ t.Ops, o.Effs.length ≤ 64) : M_task_conditions t = some (condsF t) := by
  rw [M_task_conditions, M_task_conditions_L2_eq _ _ (by omega), conds2 t t.Ops 0 [t.Goal] h2 (by simp; omega)]
  rfl
theorem flat_len : ∀ (r : List GOp), (∀ o ∈ r, o.Effs.length ≤ 64) → (r.flatMap condsO).length ≤ r.length * 65
  | [], _ => by simp
  | o :: r, h => by
    have h1 := flat_len r (fun q hq => h q (by simp [hq]))
    have h2 := h o (by simp)
    have h3 : (condsO o).length = o.Effs.length + 1 := by simp [condsO]
    rw [List.flatMap_cons, List.length_append, List.length_cons]
    omega
theorem conds_len (t : GTask) (h1 : t.Ops.length ≤ 4096) (h2 : ∀ o ∈ t.Ops, o.Effs.length ≤ 64) : (condsF t).length ≤ 300000 := by
  have := flat_len t.Ops h2
  rw [condsF, List.length_cons]
  omega
/-- too much of something -/
def largeF (t : GTask) : Bool := decide (t.Vars.length > 64) || (decide (t.Ops.length > 4096) || (t.Ops.any (fun o => decide (o.Effs.length > 64)) || (condsF t).any (fun l => decide (l.length > 64))))
theorem large_eq (t : GTask) (ht : ShT t) : M_task_large t = some (largeF t) := by
  rw [M_task_large]
  unfold largeF
  simp only [sel_dec, List.length_map]
  by_cases c1 : (t.Vars.length : Int) > 64
  · rw [if_pos c1, decide_eq_true (by omega)]; rfl
  · rw [if_neg c1, decide_eq_false (by omega)]
    by_cases c2 : (t.Ops.length : Int) > 4096
    · rw [if_pos c2, decide_eq_true (p := t.Ops.length > 4096) (by omega)]; rfl
    · rw [if_neg c2, decide_eq_false (p := t.Ops.length > 4096) (by omega), ob1_some, osum_inl]
      have e := M_task_large_L1_eq t ht.ops.lt
      rw [List.length_map] at e
      rw [e]
      simp only [Bool.false_or]
      by_cases c3 : ∃ o ∈ t.Ops, o.Effs.length > 64
      · have : (t.Ops.any (fun o => decide (o.Effs.length > 64))) = true := by
          rw [List.any_eq_true]
          obtain ⟨o, h1, h2⟩ := c3
          exact ⟨o, h1, by simpa using h2⟩
        rw [this, Bool.true_or, rg_all (p := fun o => decide (o.Effs.length ≤ 64)) (c := some true) (fun o _ i rc => by
          simp only [M_task_large_L1_B, ixv, sel_dec, List.length_map]
          by_cases c : (o.Effs.length : Int) > 64
          · rw [if_pos c, if_neg (by simp; omega)]
          · rw [if_neg c, if_pos (by simp; omega)]), if_neg]
        rw [List.all_eq_true]
        intro h
        obtain ⟨o, h1, h2⟩ := c3
        have := h o h1
        simp at this
        omega
      · have hall : ∀ o ∈ t.Ops, o.Effs.length ≤ 64 := fun o ho => by
          rcases Nat.lt_or_ge 64 o.Effs.length with h | h
          · exact absurd ⟨o, ho, h⟩ c3
          · exact h
        have : (t.Ops.any (fun o => decide (o.Effs.length > 64))) = false := by
          rw [List.any_eq_false]
          intro o ho
          have := hall o ho
          simp; omega
        rw [this, Bool.false_or, rg_all (p := fun o => decide (o.Effs.length ≤ 64)) (c := some true) (fun o _ i rc => by
          simp only [M_task_large_L1_B, ixv, sel_dec, List.length_map]
          by_cases c : (o.Effs.length : Int) > 64
          · rw [if_pos c, if_neg (by simp; omega)]
          · rw [if_neg c, if_pos (by simp; omega)]), if_pos (by rw [List.all_eq_true]; intro o ho; have := hall o ho; simpa using this)]
        have hc := conds_len t (by omega) hall
        rw [M_task_large_L1_E, conds_eq t (by omega) hall, ob1_some, containsFunc_eq (p := fun l => decide (l.length > 64)) (by unfold Sh; omega) (fun y _ => by
          rw [M_task_large_1, List.length_map]
          congr 1
          rw [Bool.eq_iff_iff, decide_eq_true_iff, decide_eq_true_iff]
          omega)]
        rfl
/-- the error of a task -/
def checkF (t : GTask) : Er :=
  if largeF t = true then .no 5
  else if t.Vars.all (fun n => decide (1 ≤ n ∧ n ≤ 64)) = true then
    if t.Ops.all (fun o => decide (0 ≤ o.Cost ∧ o.Cost ≤ 1048576)) = true then
      if (stateF t.Vars t.Init && ((condsF t).all (propF t.Vars (-1)) && t.Ops.all (fun o => o.Effs.all (fun e => propF t.Vars (-1) [(e.Var, e.Val)])))) = true then
        if t.Ops.all (fun o => (bl o.Name).all charF && decide (o.Name.size ≤ 256)) = true then .nil else .no 8
      else .no 2
    else .no 1
  else .no 1
theorem notlarge {t : GTask} (h : largeF t = false) : t.Vars.length ≤ 64 ∧ t.Ops.length ≤ 4096 ∧ (∀ o ∈ t.Ops, o.Effs.length ≤ 64) ∧ ∀ l ∈ condsF t, l.length ≤ 64 := by
  unfold largeF at h
  simp only [Bool.or_eq_false_iff, decide_eq_false_iff_not, List.any_eq_false, decide_eq_true_iff] at h
  obtain ⟨h1, h2, h3, h4⟩ := h
  exact ⟨by omega, by omega, fun o ho => by have := h3 o ho; omega, fun l hl => by have := h4 l hl; omega⟩
theorem conds_sh {t : GTask} (ht : ShT t) : ∀ l ∈ condsF t, Sh l := by
  intro l hl
  simp only [condsF, List.mem_cons, List.mem_flatMap, condsO, List.mem_map] at hl
  rcases hl with rfl | ⟨o, ho, rfl | ⟨e, he, rfl⟩⟩
  · exact ht.goal
  · exact (ht.op o ho).pre
  · exact (ht.op o ho).when e he
theorem check_eq (t : GTask) (ht : ShT t) : M_task_Check t = some (checkF t) := by
  have e1 : M_task_Check_L1 t ((((t.Vars.map cI).length : Int)).toNat + 1) 0 = if t.Vars.all (fun n => decide (1 ≤ n ∧ n ≤ 64)) = true then some (.inl ()) else some (.inr (Er.no 1)) := by
    rw [M_task_Check_L1_eq _ ht.vars.lt, rg_all (p := fun n => decide (1 ≤ n ∧ n ≤ 64)) (c := some (.inr (Er.no 1))) (fun n _ i rc => by
      simp only [M_task_Check_L1_B, ixv, sel_dec]
      by_cases c1 : n < 1
      · rw [if_pos c1, if_neg (by simp; omega)]
      · rw [if_neg c1]
        by_cases c2 : n > 64
        · rw [if_pos c2, if_neg (by simp; omega)]
        · rw [if_neg c2, if_pos (by simp; omega)])]
    rfl
  have e2 : M_task_Check_L2 t ((((t.Ops.map cGOp).length : Int)).toNat + 1) 0 = if t.Ops.all (fun o => decide (0 ≤ o.Cost ∧ o.Cost ≤ 1048576)) = true then some (.inl ()) else some (.inr (Er.no 1)) := by
    rw [M_task_Check_L2_eq _ ht.ops.lt, rg_all (p := fun o => decide (0 ≤ o.Cost ∧ o.Cost ≤ 1048576)) (c := some (.inr (Er.no 1))) (fun o _ i rc => by
      simp only [M_task_Check_L2_B, ixv, sel_dec]
      by_cases c1 : o.Cost < 0
      · rw [if_pos c1, if_neg (by simp; omega)]
      · rw [if_neg c1]
        by_cases c2 : o.Cost > 1048576
        · rw [if_pos c2, if_neg (by simp; omega)]
        · rw [if_neg c2, if_pos (by simp; omega)])]
    rfl
  have e3 : ∀ z : List (List Fact), Sh z → (∀ l ∈ z, Sh l) → M_task_Check_L3 t z ((((z.map cL_cF).length : Int)).toNat + 1) 0 = if z.all (propF t.Vars (-1)) = true then some (.inl ()) else some (.inr (Er.no 2)) := fun z hz hz2 => by
    rw [M_task_Check_L3_eq _ _ hz.lt, rg_all (p := propF t.Vars (-1)) (c := some (.inr (Er.no 2))) (fun l hl i rc => by
      simp only [M_task_Check_L3_B, ixv, facts_eq t.Vars l (hz2 l hl), ob1_some]
      cases propF t.Vars (-1) l <;> rfl)]
    rfl
  have e4 : ∀ o ∈ t.Ops, M_task_Check_L4 t o ((((o.Effs.map cGEffect).length : Int)).toNat + 1) 0 = if o.Effs.all (fun e => propF t.Vars (-1) [(e.Var, e.Val)]) = true then some (.inl ()) else some (.inr (Er.no 2)) := fun o ho => by
    rw [M_task_Check_L4_eq _ _ (ht.op o ho).effs.lt, rg_all (p := fun e => propF t.Vars (-1) [(e.Var, e.Val)]) (c := some (.inr (Er.no 2))) (fun e _ i rc => by
      simp only [M_task_Check_L4_B, ixv, facts_eq t.Vars [(e.Var, e.Val)] (by simp [Sh]), ob1_some]
      cases propF t.Vars (-1) [(e.Var, e.Val)] <;> rfl)]
    rfl
  have e5 : M_task_Check_L5 t ((((t.Ops.map cGOp).length : Int)).toNat + 1) 0 = if t.Ops.all (fun o => o.Effs.all (fun e => propF t.Vars (-1) [(e.Var, e.Val)])) = true then some (.inl ()) else some (.inr (Er.no 2)) := by
    rw [M_task_Check_L5_eq _ ht.ops.lt, rg_all (p := fun o => o.Effs.all (fun e => propF t.Vars (-1) [(e.Var, e.Val)])) (c := some (.inr (Er.no 2))) (fun o ho i rc => by
      simp only [M_task_Check_L5_B, ixv, e4 o ho]
      split <;> rfl)]
    rfl
  have e6 : M_task_Check_L6 t ((((t.Ops.map cGOp).length : Int)).toNat + 1) 0 = if t.Ops.all (fun o => (bl o.Name).all charF && decide (o.Name.size ≤ 256)) = true then some .nil else some (Er.no 8) := by
    rw [M_task_Check_L6_eq _ ht.ops.lt, rg_all (p := fun o => (bl o.Name).all charF && decide (o.Name.size ≤ 256)) (c := some (Er.no 8)) (fun o ho i rc => by
      have := (ht.op o ho).name
      simp only [M_task_Check_L6_B, ixv, named_eq o.Name (by omega), ob1_some]
      cases (bl o.Name).all charF && decide (o.Name.size ≤ 256) <;> rfl)]
    rfl
  rw [M_task_Check, large_eq t ht, ob1_some, e1, e2, e5, e6, tproper_eq _ _ ht.init]
  unfold checkF
  cases hlg : largeF t
  · obtain ⟨l1, l2, l3, l4⟩ := notlarge hlg
    have hc := conds_len t l2 l3
    simp only [conds_eq t l2 l3, ob1_some, e3 (condsF t) (by unfold Sh; omega) (conds_sh ht), sel, Bool.false_eq_true, if_false]
    cases t.Vars.all (fun n => decide (1 ≤ n ∧ n ≤ 64))
    · rfl
    · cases t.Ops.all (fun o => decide (0 ≤ o.Cost ∧ o.Cost ≤ 1048576))
      · rfl
      · cases stateF t.Vars t.Init
        · rfl
        · cases (condsF t).all (propF t.Vars (-1))
          · rfl
          · cases t.Ops.all (fun o => o.Effs.all (fun e => propF t.Vars (-1) [(e.Var, e.Val)]))
            · rfl
            · cases t.Ops.all (fun o => (bl o.Name).all charF && decide (o.Name.size ≤ 256)) <;> rfl
  · rfl
theorem propF_len (vars : List Int) : ∀ (l : List Fact) (last : Int), propF vars last l = true → last < vars.length → (l.length : Int) + last < vars.length
  | [], _, _, h => by simpa using h
  | y :: r, last, h, hl => by
    rw [propF, Bool.and_eq_true, decide_eq_true_iff] at h
    have := propF_len vars r y.1 h.2 h.1.2.1
    simp only [List.length_cons]
    omega
theorem propF_len' {vars : List Int} {l : List Fact} (h : propF vars (-1) l = true) : l.length ≤ vars.length := by
  have := propF_len vars l (-1) h (by omega)
  omega
theorem good_check (t : GTask) : goodF t = true ↔ checkF t = .nil := by
  have hcond : (condsF t).all (propF t.Vars (-1)) = true ↔ propF t.Vars (-1) t.Goal = true ∧ ∀ o ∈ t.Ops, propF t.Vars (-1) o.Pre = true ∧ ∀ e ∈ o.Effs, propF t.Vars (-1) e.When = true := by
    simp only [condsF, List.all_cons, Bool.and_eq_true, List.all_eq_true, List.mem_flatMap, condsO, List.mem_cons, List.mem_map]
    constructor
    · rintro ⟨h1, h2⟩
      exact ⟨h1, fun o ho => ⟨h2 _ ⟨o, ho, .inl rfl⟩, fun e he => h2 _ ⟨o, ho, .inr ⟨e, he, rfl⟩⟩⟩⟩
    · rintro ⟨h1, h2⟩
      refine ⟨h1, ?_⟩
      rintro l ⟨o, ho, rfl | ⟨e, he, rfl⟩⟩
      · exact (h2 o ho).1
      · exact (h2 o ho).2 e he
  constructor
  · intro h
    simp only [goodF, Bool.and_eq_true, decide_eq_true_iff, List.all_eq_true, opF, effF] at h
    obtain ⟨⟨g1, g2⟩, g3, g4, g5, g6⟩ := h
    have hc : (condsF t).all (propF t.Vars (-1)) = true := hcond.2 ⟨g5, fun o ho => ⟨(g6 o ho).2.1, fun e he => ((g6 o ho).2.2.2 e he).1⟩⟩
    have hl : largeF t = false := by
      unfold largeF
      simp only [Bool.or_eq_false_iff, decide_eq_false_iff_not, List.any_eq_false, decide_eq_true_iff]
      refine ⟨by omega, by omega, fun o ho => by have := (g6 o ho).1; omega, fun l hl => ?_⟩
      have := propF_len' (List.all_eq_true.1 hc l hl)
      omega
    unfold checkF
    rw [if_neg (by rw [hl]; simp), if_pos (by rw [List.all_eq_true]; intro n hn; simpa using g3 n hn), if_pos (by rw [List.all_eq_true]; intro o ho; have := (g6 o ho).1; simp; omega), if_pos, if_pos]
    · rw [List.all_eq_true]; intro o ho; simp only [Bool.and_eq_true, decide_eq_true_iff]; exact ⟨List.all_eq_true.2 (g6 o ho).2.2.1, (g6 o ho).1.2.2.2⟩
    · rw [g4, hc, Bool.true_and, Bool.true_and, List.all_eq_true]; intro o ho; rw [List.all_eq_true]; intro e he; exact ((g6 o ho).2.2.2 e he).2
  · intro h
    unfold checkF at h
    split at h
    · cases h
    · rename_i hl
      obtain ⟨l1, l2, l3, _⟩ := notlarge (by simpa using hl)
      split at h
      · rename_i h1
        split at h
        · rename_i h2
          split at h
          · rename_i h3
            split at h
            · rename_i h4
              simp only [Bool.and_eq_true] at h3
              obtain ⟨h3, h5, h6⟩ := h3
              obtain ⟨h7, h8⟩ := hcond.1 h5
              simp only [goodF, Bool.and_eq_true, decide_eq_true_iff]
              refine ⟨⟨l1, l2⟩, h1, h3, h7, ?_⟩
              rw [List.all_eq_true] at h2 h4 h6 ⊢
              intro o ho
              have a2 := h2 o ho
              have a4 := h4 o ho
              have a6 := h6 o ho
              rw [List.all_eq_true] at a6
              simp only [Bool.and_eq_true, decide_eq_true_iff] at a2 a4
              show (decide _ && (_ && (_ && _))) = true
              rw [(h8 o ho).1, a4.1, decide_eq_true ⟨a2.1, a2.2, l3 o ho, a4.2⟩, Bool.true_and, Bool.true_and, Bool.true_and]
              rw [List.all_eq_true]
              intro e he
              show (propF _ _ _ && propF _ _ _) = true
              rw [(h8 o ho).2 e he, a6 e he]; rfl
            · cases h
          · cases h
        · cases h
      · cases h
end Go.Proofs.Yteapjpgabdegnaa.Am
/- Plain laws of lists of facts: ascending; sorted, each once; partial.valid, Make, Join. -/
namespace Go.Proofs.Yteapjpgabdegnaa.Am
open Go.RowKit
def Asc (l : List Fact) : Prop := l.Pairwise fun a b => a.1 < b.1
def LeF (a b : Fact) : Prop := a.1 < b.1 ∨ (a.1 = b.1 ∧ a.2 ≤ b.2)
def LtF (a b : Fact) : Prop := a.1 < b.1 ∨ (a.1 = b.1 ∧ a.2 < b.2)
def Nonneg (l : List Fact) : Prop := ∀ x ∈ l, 0 ≤ x.1 ∧ 0 ≤ x.2
theorem asc_inj {l : List Fact} (h : Asc l) {a b : Fact} (ha : a ∈ l) (hb : b ∈ l) (e : a.1 = b.1) : a = b := by
  induction l with
  | nil => cases ha
  | cons z r ih =>
    obtain ⟨h1, h2⟩ := List.pairwise_cons.1 h
    rcases List.mem_cons.1 ha with ea | ha'
    · rcases List.mem_cons.1 hb with eb | hb'
      · rw [ea, eb]
      · have := h1 b hb'; rw [← ea] at this; omega
    · rcases List.mem_cons.1 hb with eb | hb'
      · have := h1 a ha'; rw [← eb] at this; omega
      · exact ih h2 ha' hb'
theorem asc_unique (a : List Fact) : ∀ b : List Fact, Asc a → Asc b → (∀ x, x ∈ a ↔ x ∈ b) → a = b := by
  induction a with
  | nil =>
    intro b _ _ h
    cases b with
    | nil => rfl
    | cons y s => have := (h y).2 (by simp); cases this
  | cons x r ih =>
    intro b ha hb h
    cases b with
    | nil => have := (h x).1 (by simp); cases this
    | cons y s =>
      obtain ⟨a1, a2⟩ := List.pairwise_cons.1 ha
      obtain ⟨b1, b2⟩ := List.pairwise_cons.1 hb
      have hxy : x = y := by
        rcases List.mem_cons.1 ((h x).1 (by simp)) with e | hx
        · exact e
        · rcases List.mem_cons.1 ((h y).2 (by simp)) with e | hy
          · exact e.symm
          · have := b1 x hx; have := a1 y hy; omega
      subst hxy
      congr 1
      refine ih s a2 b2 (fun z => ⟨fun hz => ?_, fun hz => ?_⟩)
      · rcases List.mem_cons.1 ((h z).1 (by simp [hz])) with e | hz'
        · subst e; have := a1 z hz; omega
        · exact hz'
      · rcases List.mem_cons.1 ((h z).2 (by simp [hz])) with e | hz'
        · subst e; have := b1 z hz; omega
        · exact hz'

theorem dd_mem (x : Fact) (l : List Fact) : ∀ p, (x ∈ dd p l → x ∈ l) ∧ (x ∈ l → x ∈ dd p l ∨ p = some x) := by
  induction l with
  | nil => intro p; simp [dd]
  | cons y r ih =>
    intro p
    rw [dd]
    obtain ⟨h1, h2⟩ := ih (some y)
    split
    · rename_i hp
      refine ⟨fun h => by simp [h1 h], fun h => ?_⟩
      rcases List.mem_cons.1 h with rfl | h
      · exact .inr hp
      · rcases h2 h with h | h
        · exact .inl h
        · injection h with h; subst h; exact .inr hp
    · refine ⟨fun h => ?_, fun h => ?_⟩
      · rcases List.mem_cons.1 h with rfl | h
        · simp
        · simp [h1 h]
      · rcases List.mem_cons.1 h with rfl | h
        · exact .inl (by simp)
        · rcases h2 h with h | h
          · exact .inl (by simp [h])
          · injection h with h; subst h; exact .inl (by simp)
theorem compactF_mem (x : Fact) (l : List Fact) : x ∈ compactF l ↔ x ∈ l := by
  obtain ⟨h1, h2⟩ := dd_mem x l none
  exact ⟨h1, fun h => (h2 h).elim id (fun h => by cases h)⟩
theorem dd_lt (l : List Fact) : ∀ p, l.Pairwise LeF → (∀ y, p = some y → ∀ x ∈ l, LeF y x) → (dd p l).Pairwise LtF ∧ ∀ y, p = some y → ∀ x ∈ dd p l, LtF y x := by
  induction l with
  | nil => intro p _ _; simp [dd]
  | cons z r ih =>
    intro p hs hp
    obtain ⟨h1, h2⟩ := List.pairwise_cons.1 hs
    obtain ⟨h3, h4⟩ := ih (some z) h2 (fun y hy x hx => by injection hy with hy; subst hy; exact h1 x hx)
    rw [dd]
    split
    · rename_i hz
      exact ⟨h3, fun y hy x hx => by rw [hz] at hy; injection hy with hy; subst hy; exact h4 z rfl x hx⟩
    · rename_i hz
      refine ⟨List.pairwise_cons.2 ⟨fun x hx => h4 z rfl x hx, h3⟩, fun y hy x hx => ?_⟩
      have hyz : LtF y z := by
        have hle := hp y hy z (by simp)
        have hne : ¬ y = z := fun e => hz (by rw [hy, e])
        unfold LeF at hle
        unfold LtF
        rcases hle with h | ⟨h, h'⟩
        · exact .inl h
        · by_cases e : y.2 = z.2
          · exact absurd (Prod.ext h e) hne
          · exact .inr ⟨h, by omega⟩
      rcases List.mem_cons.1 hx with rfl | hx
      · exact hyz
      · have := h4 z rfl x hx
        unfold LtF at *
        omega
theorem sortF_le (l : List Fact) : (sortF l).Pairwise LeF := by
  have h := List.pairwise_mergeSort (le := fun x y => !ltF y x) (by
    intro a b c h1 h2
    simp [ltF] at *
    omega) (by
    intro a b
    simp [ltF]
    omega) l
  refine List.Pairwise.imp ?_ h
  intro a b hab
  simp [ltF] at hab
  unfold LeF
  omega
theorem sortF_mem (x : Fact) (l : List Fact) : x ∈ sortF l ↔ x ∈ l := (List.mergeSort_perm l _).mem_iff

def tidyF (l : List Fact) : List Fact := compactF (sortF l)
theorem tidyF_mem (x : Fact) (l : List Fact) : x ∈ tidyF l ↔ x ∈ l := by rw [tidyF, compactF_mem, sortF_mem]
theorem tidyF_lt (l : List Fact) : (tidyF l).Pairwise LtF := (dd_lt (sortF l) none (sortF_le l) (fun y hy => by cases hy)).1
theorem dd_len : ∀ (l : List Fact) (p : Option Fact), (dd p l).length ≤ l.length
  | [], _ => Nat.le_refl _
  | y :: r, p => by
    rw [dd]
    have := dd_len r (some y)
    split
    · simp; omega
    · simp; omega
theorem tidyF_len (l : List Fact) : (tidyF l).length ≤ l.length := by
  have := dd_len (sortF l) none
  rw [sortF_length] at this
  exact this
/-- a partial state -/
def vF : Int → List Fact → Bool
  | _, [] => true
  | last, y :: r => decide (last < y.1 ∧ 0 ≤ y.2) && vF y.1 r
theorem valid_loop (l : List Fact) (hs : Sh l) : ∀ (r : List Fact) (n : Nat) (last : Int), l.drop n = r → n ≤ l.length → -1 ≤ last → (n = 0 → last = -1) → (∀ m, n = m + 1 → ∃ x, l[m]? = some x ∧ x.1 = last) → Rg (M_p_valid_L1_B l) (M_p_valid_L1_E l) r n () = some (vF last r)
  | [], _, _, _, _, _, _, _ => rfl
  | y :: r, n, last, hd, hn, hl, h0, hp => by
    rw [Rg, vF]
    obtain ⟨hy, hd', hlt⟩ := drop_cons hd
    have hih : 0 ≤ y.1 → Rg (M_p_valid_L1_B l) (M_p_valid_L1_E l) r ((n : Int) + 1) () = some (vF y.1 r) := fun h => valid_loop l hs r (n + 1) y.1 hd' hlt (by omega) (by omega) (fun m hm => ⟨y, by rw [show m = n by omega]; exact hy, rfl⟩)
    simp only [M_p_valid_L1_B, ixv, sel_dec]
    by_cases h1 : y.1 < 0
    · rw [if_pos h1, decide_eq_false (by omega)]; rfl
    · rw [if_neg h1]
      by_cases h3 : y.2 < 0
      · rw [if_pos h3, decide_eq_false (by omega)]; rfl
      · rw [if_neg h3]
        cases n with
        | zero =>
          have := h0 rfl
          rw [if_neg (by omega), decide_eq_true (by omega)]
          exact hih (by omega)
        | succ m =>
          obtain ⟨x, hx, hxl⟩ := hp m rfl
          rw [if_pos (by omega), w64 (by omega) (by have := hs; unfold Sh at this; omega), show (((m + 1 : Nat) : Int) - 1) = (m : Int) by omega, ix_at hx]
          by_cases h5 : x.1 ≥ y.1
          · rw [if_pos h5, decide_eq_false (by omega)]; rfl
          · rw [if_neg h5, decide_eq_true (by omega)]
            exact hih (by omega)
theorem valid_eq (l : List Fact) (hl : Sh l) : M_p_valid l = some (vF (-1) l) := by
  rw [M_p_valid, M_p_valid_L1_eq _ hl.lt]
  exact valid_loop l hl l 0 (-1) rfl (Nat.zero_le _) (by omega) (fun _ => rfl) (fun m hm => by omega)
theorem vF_iff : ∀ (l : List Fact) (last : Int), vF last l = true ↔ (∀ x ∈ l, last < x.1 ∧ 0 ≤ x.2) ∧ Asc l
  | [], last => by simp [vF, Asc]
  | y :: r, last => by
    rw [vF, Bool.and_eq_true, decide_eq_true_iff, vF_iff r y.1]
    unfold Asc
    rw [List.pairwise_cons]
    constructor
    · rintro ⟨h1, h2, h3⟩
      refine ⟨fun x hx => ?_, fun x hx => (h2 x hx).1, h3⟩
      rcases List.mem_cons.1 hx with rfl | hx
      · exact h1
      · have := h2 x hx; omega
    · rintro ⟨h1, h2, h3⟩
      exact ⟨h1 y (by simp), fun x hx => ⟨h2 x hx, (h1 x (by simp [hx])).2⟩, h3⟩
theorem vF_iff' (l : List Fact) : vF (-1) l = true ↔ Nonneg l ∧ Asc l := by
  rw [vF_iff]
  constructor
  · rintro ⟨h1, h2⟩
    exact ⟨fun x hx => ⟨by have := (h1 x hx).1; omega, (h1 x hx).2⟩, h2⟩
  · rintro ⟨h1, h2⟩
    exact ⟨fun x hx => ⟨by have := (h1 x hx).1; omega, (h1 x hx).2⟩, h2⟩
theorem propF_vF (vars : List Int) : ∀ (l : List Fact) (last : Int), propF vars last l = true → vF last l = true
  | [], _, _ => rfl
  | y :: r, last, h => by
    rw [propF, Bool.and_eq_true, decide_eq_true_iff] at h
    rw [vF, propF_vF vars r y.1 h.2, decide_eq_true ⟨h.1.1, h.1.2.2.1⟩]
    rfl
theorem propF_iff (vars : List Int) : ∀ (l : List Fact) (last : Int), propF vars last l = true ↔ vF last l = true ∧ ∀ x ∈ l, x.1 < vars.length ∧ x.2 < vars.getD x.1.toNat 0
  | [], last => by simp [propF, vF]
  | y :: r, last => by
    rw [propF, vF, Bool.and_eq_true, Bool.and_eq_true, decide_eq_true_iff, decide_eq_true_iff, propF_iff vars r y.1]
    constructor
    · rintro ⟨⟨a, b, c, d⟩, e, f⟩
      refine ⟨⟨⟨a, c⟩, e⟩, fun x hx => ?_⟩
      rcases List.mem_cons.1 hx with rfl | hx
      · exact ⟨b, d⟩
      · exact f x hx
    · rintro ⟨⟨⟨a, c⟩, e⟩, f⟩
      exact ⟨⟨a, (f y (by simp)).1, c, (f y (by simp)).2⟩, e, fun x hx => f x (by simp [hx])⟩
/-- no two values of one variable -/
def Compat (l : List Fact) : Prop := ∀ x ∈ l, ∀ y ∈ l, x.1 = y.1 → x.2 = y.2
theorem asc_compat {l : List Fact} (h : Asc l) : Compat l := fun x hx y hy e => by rw [asc_inj h hx hy e]
theorem tidyF_asc {l : List Fact} : Asc (tidyF l) ↔ Compat l := by
  constructor
  · intro h x hx y hy e
    exact asc_compat h x ((tidyF_mem x l).2 hx) y ((tidyF_mem y l).2 hy) e
  · intro h
    have h2 : ∀ x ∈ tidyF l, x ∈ l := fun x hx => (tidyF_mem x l).1 hx
    have h1 := tidyF_lt l
    generalize tidyF l = t at h1 h2
    induction t with
    | nil => exact List.Pairwise.nil
    | cons z r ih =>
      obtain ⟨a, b⟩ := List.pairwise_cons.1 h1
      refine List.pairwise_cons.2 ⟨fun x hx => ?_, ih b (fun x hx => h2 x (by simp [hx]))⟩
      have h3 := a x hx
      unfold LtF at h3
      rcases h3 with h3 | ⟨h3, h4⟩
      · exact h3
      · have := h z (h2 z (by simp)) x (h2 x (by simp [hx])) h3
        omega
theorem tidyF_valid {l : List Fact} (hn : Nonneg l) : vF (-1) (tidyF l) = true ↔ Compat l := by
  rw [vF_iff', tidyF_asc]
  exact ⟨fun h => h.2, fun h => ⟨fun x hx => hn x ((tidyF_mem x l).1 hx), h⟩⟩
theorem make_eq (l : List Fact) (hl : l.length * 16 ≤ 140737488355328) (hn : Nonneg l) : M_p_Make l = some (if vF (-1) (tidyF l) = true then (tidyF l, Er.nil) else ([], Er.no 2)) := by
  have hs : Sh l := by unfold Sh; omega
  have ht := tidyF_len l
  rw [M_p_Make, M_p_Make_L1_eq _ hs.lt, rg_all (p := fun _ => true) (c := none) (fun y hy i rc => by
    obtain ⟨h1, h2⟩ := hn y hy
    simp only [M_p_Make_L1_B, ixv, sel_dec]
    rw [if_neg (by omega), if_neg (by omega)]; simp), if_pos (by simp)]
  rw [M_p_Make_L1_E, ob1_some, osum_inl, M_cloneF, grd_t hl, ob1_some, M_sortF, grd_t (by omega), ob1_some, grd_t (sortF_length l), M_compactF, grd_t (by rw [sortF_length]; exact hl), ob1_some]
  have : compactF (sortF l) = tidyF l := rfl
  rw [this, grd_t (by omega), valid_eq _ (by unfold Sh; omega), ob1_some]
  cases vF (-1) (tidyF l) <;> rfl
/-- the union of two partial states, if they do not contradict each other -/
def joinO (a b : List Fact) : Option (List Fact) := if vF (-1) (tidyF (a ++ b)) = true then some (tidyF (a ++ b)) else none
def joinR (a b : List Fact) : List Fact × Bool := match joinO a b with | some p => (p, true) | none => ([], false)
theorem join_eq (a b : List Fact) (hl : (a.length + b.length) * 16 ≤ 140737488355328) (ha : vF (-1) a = true) (hb : vF (-1) b = true) : M_p_Join a b = some (joinR a b) := by
  have h1 := (vF_iff' a).1 ha
  have h2 := (vF_iff' b).1 hb
  have hlen : (a ++ b).length = a.length + b.length := List.length_append
  rw [M_p_Join, valid_eq _ (by unfold Sh; omega), ha, ob1_some, valid_eq _ (by unfold Sh; omega), hb]
  show ob1 (M_cloneF a) _ = _
  rw [M_cloneF, grd_t (by omega), ob1_some, grd_t (by omega), make_eq (a ++ b) (by omega) (fun x hx => by
    rcases List.mem_append.1 hx with hx | hx
    · exact h1.1 x hx
    · exact h2.1 x hx)]
  unfold joinR joinO
  split
  · rw [ob2_some, grd_t (by omega)]; rfl
  · rw [ob2_some, grd_t (by omega)]; rfl
theorem joinO_some {a b p : List Fact} (h : joinO a b = some p) : vF (-1) p = true ∧ ∀ x, x ∈ p ↔ x ∈ a ∨ x ∈ b := by
  unfold joinO at h
  split at h
  · rename_i h1
    injection h with h
    subst h
    exact ⟨h1, fun x => by rw [tidyF_mem, List.mem_append]⟩
  · cases h
theorem joinO_none {a b : List Fact} (ha : vF (-1) a = true) (hb : vF (-1) b = true) (h : joinO a b = none) : ¬ Compat (a ++ b) := by
  intro hc
  unfold joinO at h
  rw [if_pos ((tidyF_valid (fun x hx => by
    rcases List.mem_append.1 hx with hx | hx
    · exact ((vF_iff' a).1 ha).1 x hx
    · exact ((vF_iff' b).1 hb).1 x hx)).2 hc)] at h
  cases h
end Go.Proofs.Yteapjpgabdegnaa.Am
/- Plain laws: regress.compare, BinarySearchFunc over a strictly ascending list. -/
namespace Go.Proofs.Yteapjpgabdegnaa.Am
open Go.RowKit
theorem cmp_int_eq (a b : Int) : M_cmp_Compare_int a b = some (Lib.compareInt a b) := by
  have e : ∀ x : Int, M_cmp_isNaN_int x = some false := fun x => by simp [M_cmp_isNaN_int]
  rw [M_cmp_Compare_int, e, e]
  simp only [ob1_some, sel_ff, sel_dec]
  rcases compareInt_cases a b with ⟨h, hc⟩ | ⟨h, hc⟩ | ⟨h, hc⟩ <;> rw [hc]
  · rw [if_pos h]
  · rw [if_neg (by omega), if_neg (by omega)]
  · rw [if_neg (by omega), if_pos h]
theorem or2_eq (a b : Int) : M_cmp_Or_int [a, b] = some (if a ≠ 0 then a else b) := by
  rw [M_cmp_Or_int, M_cmp_Or_int_L1_eq [a, b] (by simp)]
  simp only [Rg, M_cmp_Or_int_L1_B, M_cmp_Or_int_L1_E, ixv]
  by_cases ha : a = 0
  · subst ha
    rw [show ((0 : Int) != 0) = false from rfl, sel_ff, if_neg (by simp)]
    by_cases hb : b = 0
    · subst hb; rfl
    · rw [show (b != 0) = true from by simp [hb], sel_tt]
  · rw [show (a != 0) = true from by simp [ha], sel_tt, if_pos ha]
theorem rcmp1_eq (x y : Fact) : M_g_compare_1 x y = some (cmpF x y) := by
  rw [M_g_compare_1, cmp_int_eq, ob1_some, cmp_int_eq, ob1_some, or2_eq, ob1_some]
  rfl
theorem cfunc_loop (a b : List Fact) : ∀ (r : List Fact) (n : Nat), a.drop n = r → n ≤ a.length → n ≤ b.length →
    ob1 (Rg (M_s_CompareFunc_Fact_L1_B a b M_g_compare_1) (M_s_CompareFunc_Fact_L1_E a b M_g_compare_1) r n ())
      (osum (fun _ => sel (decide (((a.map cF).length : Int) < ((b.map cF).length : Int))) (some (-1)) (some 0)) (fun r13 => some r13)) = some (cmpLF r (b.drop n)) := by
  intro r
  induction r with
  | nil =>
    intro n h hn hm
    have hn' : n = a.length := by have := congrArg List.length h; simp at this; omega
    subst hn'
    rw [Rg, M_s_CompareFunc_Fact_L1_E, ob1_some, osum_inl, sel_dec, List.length_map, List.length_map]
    by_cases hlt : a.length < b.length
    · obtain ⟨y, hy, hd⟩ := drop_at hlt
      rw [if_pos (by omega), hd, cmpLF]
    · rw [if_neg (by omega), show b.drop a.length = [] from List.drop_eq_nil_of_le (by omega), cmpLF]
  | cons y r ih =>
    intro n h hn hm
    obtain ⟨hy, hd, hlt⟩ := drop_cons h
    rw [Rg, M_s_CompareFunc_Fact_L1_B, ixv]
    by_cases hge : n < b.length
    · obtain ⟨z, hz, hdz⟩ := drop_at hge
      rw [sel_dec, if_neg (by rw [List.length_map]; omega), ix_at hz, rcmp1_eq, ob1_some, hdz, cmpLF]
      by_cases hc : cmpF y z = 0
      · rw [show (cmpF y z != 0) = false from by simp [hc], sel_ff, if_neg (by simp [hc])]
        exact ih (n + 1) hd hlt hge
      · rw [show (cmpF y z != 0) = true from by simp [hc], sel_tt, ob1_some, osum_inr, if_pos hc]
    · rw [sel_dec, List.length_map, if_pos (by omega), ob1_some, osum_inr, show b.drop n = [] from List.drop_eq_nil_of_le (by omega), cmpLF]
theorem compare_eq (a b : List Fact) (ha : Sh a) : M_g_compare a b = some (cmpLF a b) := by
  have h := cfunc_loop a b a 0 rfl (Nat.zero_le _) (Nat.zero_le _)
  rw [M_g_compare, M_s_CompareFunc_Fact, M_s_CompareFunc_Fact_L1_eq a b _ ha.lt]
  rw [List.drop_zero] at h
  exact (congrArg (fun o => ob1 o (fun z1 => some z1)) h)
-- ascending lists of lists
def SortedL (l : List (List Fact)) : Prop := l.Pairwise fun a b => cmpLF a b < 0
theorem cmpLF_lt_gt {a b : List Fact} : cmpLF a b < 0 ↔ 0 < cmpLF b a := by rw [cmpLF_anti a b]; omega
theorem sortedL_unique (a : List (List Fact)) : ∀ b : List (List Fact), SortedL a → SortedL b → (∀ x, x ∈ a ↔ x ∈ b) → a = b := by
  have irr : ∀ x : List Fact, ¬ cmpLF x x < 0 := fun x => by rw [cmpLF_zero.2 rfl]; decide
  have asy : ∀ {x y : List Fact}, cmpLF x y < 0 → ¬ cmpLF y x < 0 := fun h => by rw [cmpLF_anti] ; omega
  induction a with
  | nil =>
    intro b _ _ h
    cases b with
    | nil => rfl
    | cons y s => have := (h y).2 (by simp); cases this
  | cons x r ih =>
    intro b ha hb h
    cases b with
    | nil => have := (h x).1 (by simp); cases this
    | cons y s =>
      obtain ⟨h1, h2⟩ := List.pairwise_cons.1 ha
      obtain ⟨k1, k2⟩ := List.pairwise_cons.1 hb
      have e : x = y := by
        rcases List.mem_cons.1 ((h x).1 (by simp)) with e | hx
        · exact e
        · rcases List.mem_cons.1 ((h y).2 (by simp)) with e | hy
          · exact e.symm
          · exact absurd (k1 x hx) (asy (h1 y hy))
      subst e
      congr 1
      refine ih s h2 k2 fun z => ⟨fun hz => ?_, fun hz => ?_⟩
      · rcases List.mem_cons.1 ((h z).1 (List.mem_cons_of_mem _ hz)) with e | h'
        · subst e; exact absurd (h1 _ hz) (irr _)
        · exact h'
      · rcases List.mem_cons.1 ((h z).2 (List.mem_cons_of_mem _ hz)) with e | h'
        · subst e; exact absurd (k1 _ hz) (irr _)
        · exact h'
theorem mid_eq {a b : Nat} (h : a + b < 4611686018427387904) : IntKind.i64.wrap (Int.fdiv (IntKind.u64.wrap (IntKind.i64.wrap ((a : Int) + b))) 2) = (((a + b) / 2 : Nat) : Int) := by
  rw [w64 (z := (a : Int) + b) (by omega) (by omega)]
  have e : IntKind.u64.wrap ((a : Int) + b) = (a : Int) + b := by
    show ((a : Int) + b) % _ = _
    exact Int.emod_eq_of_lt (by omega) (by show _ < (18446744073709551616 : Int); omega)
  rw [e, Int.fdiv_eq_ediv_of_nonneg _ (by decide), w64 (by omega) (by omega)]
  omega
theorem bs_loop (l : List (List Fact)) (z : List Fact) (hl : l.length < 1000000) (hsh : ∀ x ∈ l, Sh x) (hs : SortedL l) :
    ∀ (k : Nat) (lo hi : Nat), lo ≤ hi → hi ≤ l.length → hi - lo < 2 ^ k → (∀ (j : Nat) (y : List Fact), j < lo → l[j]? = some y → cmpLF y z < 0) → (∀ (j : Nat) (y : List Fact), hi ≤ j → l[j]? = some y → ¬ cmpLF y z < 0) → ∀ m : Nat,
    ∃ p : Nat, M_s_BinarySearchFunc_Fact_L1 l z M_g_compare (k + 1 + m) lo hi = some (p : Int) ∧ p ≤ l.length ∧ (∀ (j : Nat) (y : List Fact), j < p → l[j]? = some y → cmpLF y z < 0) ∧ (∀ (j : Nat) (y : List Fact), p ≤ j → l[j]? = some y → ¬ cmpLF y z < 0) := by
  intro k
  induction k with
  | zero =>
    intro lo hi h1 h2 h3 h4 h5 m
    obtain rfl : lo = hi := by omega
    refine ⟨lo, ?_, h2, h4, h5⟩
    rw [show 0 + 1 + m = m + 1 from by omega, M_s_BinarySearchFunc_Fact_L1, decide_ge, sel_ff]
  | succ k ih =>
    intro lo hi h1 h2 h3 h4 h5 m
    rw [show k + 1 + 1 + m = (k + 1 + m) + 1 from by omega, M_s_BinarySearchFunc_Fact_L1]
    by_cases hlt : lo < hi
    · obtain ⟨y, hy, -⟩ := drop_at (l := l) (n := (lo + hi) / 2) (by omega)
      rw [decide_lt hlt, sel_tt, mid_eq (by omega), ix_at hy, compare_eq y z (hsh y (List.mem_of_getElem? hy)), ob1_some, sel_dec]
      have hp : 2 ^ (k + 1) = 2 * 2 ^ k := by rw [Nat.pow_succ]; omega
      by_cases hc : cmpLF y z < 0
      · rw [if_pos hc, w64s (by omega)]
        refine ih _ _ (by omega) h2 (by omega) (fun j u hj hu => ?_) h5 m
        rcases Nat.lt_or_eq_of_le (Nat.lt_succ_iff.1 hj) with hj' | rfl
        · obtain ⟨hj1, hj2⟩ := List.getElem?_eq_some_iff.1 hu
          obtain ⟨hy1, hy2⟩ := List.getElem?_eq_some_iff.1 hy
          have := List.pairwise_iff_getElem.1 hs j _ hj1 hy1 hj'
          rw [hj2, hy2] at this
          exact cmpLF_trans this hc
        · rw [hy] at hu; cases hu; exact hc
      · rw [if_neg hc]
        refine ih _ _ (by omega) (by omega) (by omega) h4 (fun j u hj hu hn => ?_) m
        rcases Nat.lt_or_eq_of_le hj with hj' | rfl
        · obtain ⟨hj1, hj2⟩ := List.getElem?_eq_some_iff.1 hu
          obtain ⟨hy1, hy2⟩ := List.getElem?_eq_some_iff.1 hy
          have := List.pairwise_iff_getElem.1 hs _ j hy1 hj1 hj'
          rw [hj2, hy2] at this
          exact hc (cmpLF_trans this hn)
        · rw [hy] at hu; cases hu; exact hc hn
    · obtain rfl : lo = hi := by omega
      exact ⟨lo, by rw [decide_ge, sel_ff], h2, h4, h5⟩
theorem bsearch_eq (l : List (List Fact)) (z : List Fact) (g : Nat) (hg : 21 ≤ g) (hl : l.length < 1000000) (hsh : ∀ x ∈ l, Sh x) (hs : SortedL l) :
    ∃ (p : Nat) (f : Bool), M_s_BinarySearchFunc_Fact g l z M_g_compare = some ((p : Int), f) ∧ p ≤ l.length ∧ (f = true ↔ z ∈ l) ∧ (f = false → SortedL (l.take p ++ z :: l.drop p)) := by
  obtain ⟨p, hp, hpl, h1, h2⟩ := bs_loop l z hl hsh hs 20 0 l.length (Nat.zero_le _) (Nat.le_refl _) (by rw [Nat.sub_zero]; exact Nat.lt_trans hl (by decide)) (fun j y h => by omega) (fun j y hj hy => by rw [List.getElem?_eq_none hj] at hy; cases hy) (g - 21)
  rw [show 20 + 1 + (g - 21) = g from by omega] at hp
  have hlow : ∀ y ∈ l.take p, cmpLF y z < 0 := fun y hy => by
    obtain ⟨j, hj⟩ := List.mem_iff_getElem?.1 hy
    rw [List.getElem?_take] at hj
    split at hj
    · exact h1 j y ‹_› hj
    · cases hj
  have hhigh : ∀ y ∈ l.drop p, ¬ cmpLF y z < 0 := fun y hy => by
    obtain ⟨j, hj⟩ := List.mem_iff_getElem?.1 hy
    rw [List.getElem?_drop] at hj
    exact h2 _ y (by omega) hj
  have hsplit : l.take p ++ l.drop p = l := List.take_append_drop _ _
  have hpw : (l.take p ++ l.drop p).Pairwise fun a b => cmpLF a b < 0 := by rw [hsplit]; exact hs
  obtain ⟨q1, q2, q3⟩ := List.pairwise_append.1 hpw
  have hmem : z ∈ l ↔ z ∈ l.drop p := by
    constructor
    · intro h
      rw [← hsplit] at h
      rcases List.mem_append.1 h with h | h
      · have := hlow z h; rw [cmpLF_zero.2 rfl] at this; omega
      · exact h
    · exact List.mem_of_mem_drop
  have hput : z ∉ l → SortedL (l.take p ++ z :: l.drop p) := fun hn => by
    refine List.pairwise_append.2 ⟨q1, List.pairwise_cons.2 ⟨fun y hy => ?_, q2⟩, fun a ha b hb => ?_⟩
    · have h3 := hhigh y hy
      have h4 : cmpLF y z ≠ 0 := fun e => hn (hmem.2 (by rw [← cmpLF_zero.1 e]; exact hy))
      rw [cmpLF_lt_gt]; omega
    · rcases List.mem_cons.1 hb with rfl | hb
      · exact hlow a ha
      · exact q3 a ha b hb
  rw [M_s_BinarySearchFunc_Fact, List.length_map]
  have hp' : M_s_BinarySearchFunc_Fact_L1 l z M_g_compare g 0 (l.length : Int) = some (p : Int) := hp
  rw [hp', ob1_some]
  by_cases hlt : p < l.length
  · obtain ⟨y, hy, hd⟩ := drop_at hlt
    rw [decide_lt hlt, sel_tt, ix_at hy, compare_eq y z (hsh y (List.mem_of_getElem? hy)), ob1_some]
    have hiff : (cmpLF y z == 0) = true ↔ z ∈ l := by
      rw [beq_iff_eq, cmpLF_zero, hmem, hd]
      constructor
      · rintro rfl; simp
      · intro h
        rcases List.mem_cons.1 h with e | h
        · exact e.symm
        · rw [hd] at q2
          have := (List.pairwise_cons.1 q2).1 z h
          exact absurd this (hhigh y (by rw [hd]; simp))
    refine ⟨p, _, rfl, hpl, hiff, fun hf => hput fun hz => ?_⟩
    rw [hiff.2 hz] at hf; cases hf
  · obtain rfl : p = l.length := by omega
    have hn : z ∉ l := fun h => by have := hmem.1 h; rw [List.drop_length] at this; cases this
    exact ⟨l.length, false, by rw [decide_ge, sel_ff], hpl, ⟨(fun h => nomatch h), (fun h => absurd h hn)⟩, fun _ => hput hn⟩
end Go.Proofs.Yteapjpgabdegnaa.Am
/- Plain laws: regress.join, regress.silent. -/
namespace Go.Proofs.Yteapjpgabdegnaa.Am
open Go.RowKit
abbrev PropL (vars : List Int) (l : List (List Fact)) : Prop := ∀ x ∈ l, propF vars (-1) x = true
def addN {α : Type} [DecidableEq α] (out : List α) (z : α) : List α := if z ∈ out then out else out ++ [z]
theorem addN_mem {α : Type} [DecidableEq α] (out : List α) (z x : α) : x ∈ addN out z ↔ x ∈ out ∨ x = z := by
  unfold addN; split
  · constructor
    · exact Or.inl
    · rintro (h | rfl) <;> assumption
  · simp
theorem addN_nodup {α : Type} [DecidableEq α] {out : List α} (h : out.Nodup) (z : α) : (addN out z).Nodup := by
  unfold addN; split
  · exact h
  · rename_i hz
    refine List.nodup_append.2 ⟨h, by simp, fun a ha b hb => ?_⟩
    rw [List.mem_singleton] at hb; subst hb
    rintro rfl; exact hz ha
theorem addN_len {α : Type} [DecidableEq α] (out : List α) (z : α) : out.length ≤ (addN out z).length := by
  unfold addN; split
  · exact Nat.le_refl _
  · simp
theorem propF_vF' {vars : List Int} {l : List Fact} (h : propF vars (-1) l = true) : vF (-1) l = true := propF_vF vars l (-1) h
theorem joinO_prop {vars : List Int} {a b p : List Fact} (ha : propF vars (-1) a = true) (hb : propF vars (-1) b = true) (h : joinO a b = some p) : propF vars (-1) p = true := by
  obtain ⟨hv, hm⟩ := joinO_some h
  refine (propF_iff vars p (-1)).2 ⟨hv, fun x hx => ?_⟩
  rcases (hm x).1 hx with h | h
  · exact ((propF_iff vars a (-1)).1 ha).2 x h
  · exact ((propF_iff vars b (-1)).1 hb).2 x h
def joinX (x : List Fact) : List (List Fact) → List (List Fact) → List (List Fact)
  | [], out => out
  | y :: r, out => joinX x r (match joinO x y with | some z => addN out z | none => out)
def joinXX : List (List Fact) → List (List Fact) → List (List Fact) → List (List Fact)
  | [], _, out => out
  | x :: r, b, out => joinXX r b (joinX x b out)
def joinLL (a b : List (List Fact)) : List (List Fact) := joinXX a b []
theorem joinX_len (x : List Fact) : ∀ (b out : List (List Fact)), out.length ≤ (joinX x b out).length
  | [], _ => Nat.le_refl _
  | y :: r, out => by
    rw [joinX]
    refine Nat.le_trans ?_ (joinX_len x r _)
    split
    · exact addN_len _ _
    · exact Nat.le_refl _
theorem joinXX_len : ∀ (a b out : List (List Fact)), out.length ≤ (joinXX a b out).length
  | [], _, _ => Nat.le_refl _
  | x :: r, b, out => Nat.le_trans (joinX_len x b out) (joinXX_len r b _)
theorem joinX_nodup (x : List Fact) : ∀ (b out : List (List Fact)), out.Nodup → (joinX x b out).Nodup
  | [], _, h => h
  | y :: r, out, h => by
    rw [joinX]
    refine joinX_nodup x r _ ?_
    split
    · exact addN_nodup h _
    · exact h
theorem joinXX_nodup : ∀ (a b out : List (List Fact)), out.Nodup → (joinXX a b out).Nodup
  | [], _, _, h => h
  | x :: r, b, out, h => joinXX_nodup r b _ (joinX_nodup x b out h)
theorem joinLL_nodup (a b : List (List Fact)) : (joinLL a b).Nodup := joinXX_nodup a b [] List.nodup_nil
theorem joinX_mem (x : List Fact) (z : List Fact) : ∀ (b out : List (List Fact)), z ∈ joinX x b out ↔ z ∈ out ∨ ∃ y ∈ b, joinO x y = some z
  | [], out => by simp [joinX]
  | y :: r, out => by
    rw [joinX, joinX_mem x z r]
    cases h : joinO x y with
    | none => simp [h]
    | some w =>
      simp only [addN_mem, List.mem_cons]
      constructor
      · rintro ((h' | rfl) | ⟨u, hu, h'⟩)
        · exact Or.inl h'
        · exact Or.inr ⟨y, Or.inl rfl, h⟩
        · exact Or.inr ⟨u, Or.inr hu, h'⟩
      · rintro (h' | ⟨u, rfl | hu, h'⟩)
        · exact Or.inl (Or.inl h')
        · rw [h] at h'; cases h'; exact Or.inl (Or.inr rfl)
        · exact Or.inr ⟨u, hu, h'⟩
theorem joinXX_mem (z : List Fact) : ∀ (a b out : List (List Fact)), z ∈ joinXX a b out ↔ z ∈ out ∨ ∃ x ∈ a, ∃ y ∈ b, joinO x y = some z
  | [], b, out => by simp [joinXX]
  | x :: r, b, out => by
    rw [joinXX, joinXX_mem z r, joinX_mem, or_assoc]
    simp only [List.mem_cons, exists_eq_or_imp]
theorem joinLL_mem (z : List Fact) (a b : List (List Fact)) : z ∈ joinLL a b ↔ ∃ x ∈ a, ∃ y ∈ b, joinO x y = some z := by
  rw [joinLL, joinXX_mem]; simp
theorem joinLL_prop {vars : List Int} {a b : List (List Fact)} (ha : PropL vars a) (hb : PropL vars b) : PropL vars (joinLL a b) := fun z hz => by
  obtain ⟨x, hx, y, hy, h⟩ := (joinLL_mem z a b).1 hz
  exact joinO_prop (ha x hx) (hb y hy) h
structure JInv (vars : List Int) (s o : List (List Fact)) : Prop where
  asc : SortedL s
  len : s.length = o.length
  mem : ∀ z, z ∈ s ↔ z ∈ o
  prop : PropL vars o
theorem prop_len {vars : List Int} (hv : vars.length ≤ 64) {x : List Fact} (h : propF vars (-1) x = true) : x.length ≤ 64 := Nat.le_trans (propF_len' h) hv
theorem prop_sh {vars : List Int} (hv : vars.length ≤ 64) {x : List Fact} (h : propF vars (-1) x = true) : Sh x := Nat.le_trans (prop_len hv h) (by decide)
theorem join1 (vars : List Int) (hv : vars.length ≤ 64) (g : Nat) (hg : 21 ≤ g) (b : List (List Fact)) (x : List Fact) (hx : propF vars (-1) x = true) :
    ∀ (r : List (List Fact)) (i : Int) (s o : List (List Fact)), PropL vars r → JInv vars s o → o.length ≤ 1024 →
    ∃ res, Rg (M_g_join_L1_B b g x) (M_g_join_L1_E b g x) r i (s, o) = some res ∧
      ((joinX x r o).length ≤ 1024 → ∃ s', res = .inl (s', joinX x r o) ∧ JInv vars s' (joinX x r o)) ∧ (1024 < (joinX x r o).length → res = .inr ([], Er.no 5))
  | [], i, s, o, hr, hi, ho => ⟨_, rfl, fun _ => ⟨s, rfl, hi⟩, fun h => absurd h (by rw [joinX]; omega)⟩
  | y :: r, i, s, o, hr, hi, ho => by
    have hy := hr y (List.mem_cons_self ..)
    have hr' : PropL vars r := fun u hu => hr u (List.mem_cons_of_mem _ hu)
    have l1 := prop_len hv hx
    have l2 := prop_len hv hy
    rw [Rg, M_g_join_L1_B, ixv, join_eq x y (by omega) (propF_vF' hx) (propF_vF' hy)]
    cases h : joinO x y with
    | none =>
      rw [show joinX x (y :: r) o = joinX x r o from by rw [joinX, h], joinR, h, ob2_some, Bool.not_false, sel_tt]
      exact join1 vars hv g hg b x hx r _ s o hr' hi ho
    | some z =>
      have hz := joinO_prop hx hy h
      rw [show joinX x (y :: r) o = joinX x r (addN o z) from by rw [joinX, h], joinR, h, ob2_some, Bool.not_true, sel_ff, grd_t (by rw [hi.len]; omega)]
      obtain ⟨p, f, he, hp, hf, hput⟩ := bsearch_eq s z g hg (by rw [hi.len]; omega) (fun u hu => prop_sh hv (hi.prop u ((hi.mem u).1 hu))) hi.asc
      rw [he, ob2_some]
      cases f with
      | true =>
        rw [sel_tt, addN, if_pos ((hi.mem z).1 (hf.1 rfl))]
        exact join1 vars hv g hg b x hx r _ s o hr' hi ho
      | false =>
        have hno : z ∉ o := fun hz => by have := hf.2 ((hi.mem z).2 hz); cases this
        rw [sel_ff, addN, if_neg hno]
        by_cases hm : o.length = 1024
        · rw [show (((o.length : Nat) : Int) == 1024) = true from by rw [hm]; rfl, sel_tt]
          have := joinX_len x r (o ++ [z])
          rw [List.length_append, List.length_singleton, hm] at this
          exact ⟨_, rfl, fun h => absurd h (by omega), fun _ => rfl⟩
        · rw [show (((o.length : Nat) : Int) == 1024) = false from by simp; omega, sel_ff, M_insertL, grd_t (by omega), grd_t (by omega), grd_t (by rw [hi.len]; omega), ob1_some, grd_t (by omega), Int.toNat_natCast]
          refine join1 vars hv g hg b x hx r _ _ (o ++ [z]) hr' ⟨hput rfl, ?_, fun u => ?_, fun u hu => ?_⟩ (by rw [List.length_append, List.length_singleton]; omega)
          · have := hi.len
            simp only [List.length_append, List.length_cons, List.length_take, List.length_drop, List.length_nil]; omega
          · rw [List.mem_append, List.mem_cons, List.mem_append, List.mem_singleton, ← hi.mem u]
            conv => rhs; rw [← List.take_append_drop p s, List.mem_append]
            constructor
            · rintro (h | h | h)
              · exact Or.inl (Or.inl h)
              · exact Or.inr h
              · exact Or.inl (Or.inr h)
            · rintro ((h | h) | h)
              · exact Or.inl h
              · exact Or.inr (Or.inr h)
              · exact Or.inr (Or.inl h)
          · rcases List.mem_append.1 hu with h | h
            · exact hi.prop u h
            · rw [List.mem_singleton.1 h]; exact hz
def capR (l : List (List Fact)) : List (List Fact) × Er := if l.length ≤ 1024 then (l, Er.nil) else ([], Er.no 5)
theorem join2 (vars : List Int) (hv : vars.length ≤ 64) (g : Nat) (hg : 21 ≤ g) (a b : List (List Fact)) (hb : PropL vars b) (hbl : Sh b) :
    ∀ (r : List (List Fact)) (i : Int) (s o : List (List Fact)), PropL vars r → JInv vars s o → o.length ≤ 1024 →
    Rg (M_g_join_L2_B a b g) (M_g_join_L2_E a b g) r i (s, o) = some (capR (joinXX r b o))
  | [], i, s, o, hr, hi, ho => by rw [Rg, M_g_join_L2_E, joinXX, capR, if_pos ho]; exact grd_t (by omega)
  | x :: r, i, s, o, hr, hi, ho => by
    have hx := hr x (List.mem_cons_self ..)
    have hr' : PropL vars r := fun u hu => hr u (List.mem_cons_of_mem _ hu)
    rw [Rg, M_g_join_L2_B, ixv, M_g_join_L1_eq b g x s o hbl.lt, joinXX]
    obtain ⟨res, he, h1, h2⟩ := join1 vars hv g hg b x hx b 0 s o hb hi ho
    rw [he, ob1_some]
    by_cases h : (joinX x b o).length ≤ 1024
    · obtain ⟨s', rfl, hi'⟩ := h1 h
      rw [osum_inl]
      exact join2 vars hv g hg a b hb hbl r _ s' _ hr' hi' h
    · rw [h2 (by omega), osum_inr, capR, if_neg (by have := joinXX_len r b (joinX x b o); omega)]
theorem rjoin_eq (vars : List Int) (hv : vars.length ≤ 64) (g : Nat) (hg : 21 ≤ g) (a b : List (List Fact)) (ha : PropL vars a) (hb : PropL vars b) (hal : Sh a) (hbl : Sh b) :
    M_g_join g a b = some (capR (joinLL a b)) := by
  rw [M_g_join, M_g_join_L2_eq a b g [] [] hal.lt]
  exact join2 vars hv g hg a b hb hbl a 0 [] [] ha ⟨List.Pairwise.nil, rfl, fun _ => Iff.rfl, fun _ h => nomatch h⟩ (by decide)
-- silent
def silOne (f : Fact) : Nat → Int → List (List Fact)
  | 0, _ => []
  | m + 1, i => (if i ≠ f.2 then [[(f.1, i)]] else []) ++ silOne f m (i + 1)
def silF (vars : List Int) (w : List Fact) : List (List Fact) := w.flatMap fun f => silOne f (vars.getD f.1.toNat 0).toNat 0
theorem silOne_len (f : Fact) : ∀ (m : Nat) (i : Int), (silOne f m i).length ≤ m
  | 0, _ => Nat.le_refl _
  | m + 1, i => by
    rw [silOne, List.length_append]
    have := silOne_len f m (i + 1)
    split <;> simp <;> omega
theorem silOne_mem (f : Fact) (z : List Fact) : ∀ (m : Nat) (i : Int), z ∈ silOne f m i ↔ ∃ y : Int, i ≤ y ∧ y < i + m ∧ y ≠ f.2 ∧ z = [(f.1, y)]
  | 0, i => by rw [silOne]; constructor; exact (nofun); rintro ⟨y, h1, h2, -⟩; omega
  | m + 1, i => by
    rw [silOne, List.mem_append, silOne_mem f z m]
    constructor
    · rintro (h | ⟨y, h1, h2, h3⟩)
      · split at h
        · exact ⟨i, Int.le_refl _, by omega, ‹_›, List.mem_singleton.1 h⟩
        · cases h
      · exact ⟨y, by omega, by omega, h3⟩
    · rintro ⟨y, h1, h2, h3, h4⟩
      rcases Int.lt_or_eq_of_le h1 with h | rfl
      · exact Or.inr ⟨y, by omega, by omega, h3, h4⟩
      · left; rw [if_pos h3, h4]; exact List.mem_singleton.2 rfl
theorem silF_mem {vars : List Int} {w : List Fact} {z : List Fact} : z ∈ silF vars w ↔ ∃ f ∈ w, ∃ y : Int, 0 ≤ y ∧ y < (vars.getD f.1.toNat 0).toNat ∧ y ≠ f.2 ∧ z = [(f.1, y)] := by
  rw [silF, List.mem_flatMap]
  constructor
  · rintro ⟨f, hf, h⟩
    obtain ⟨y, h1, h2, h3⟩ := (silOne_mem f z _ _).1 h
    exact ⟨f, hf, y, h1, by omega, h3⟩
  · rintro ⟨f, hf, y, h1, h2, h3⟩
    exact ⟨f, hf, (silOne_mem f z _ _).2 ⟨y, h1, by omega, h3⟩⟩
theorem silF_prop {vars : List Int} {w : List Fact} (hw : propF vars (-1) w = true) : PropL vars (silF vars w) := fun z hz => by
  obtain ⟨f, hf, y, h1, h2, -, rfl⟩ := silF_mem.1 hz
  obtain ⟨hv, hr⟩ := (propF_iff vars w (-1)).1 hw
  have hn := ((vF_iff' w).1 hv).1 f hf
  have := hr f hf
  refine (propF_iff vars _ (-1)).2 ⟨(vF_iff' _).2 ⟨fun x hx => ?_, List.pairwise_singleton ..⟩, fun x hx => ?_⟩
  · rw [List.mem_singleton.1 hx]; exact ⟨hn.1, h1⟩
  · rw [List.mem_singleton.1 hx]; exact ⟨this.1, by show y < vars.getD f.1.toNat 0; omega⟩
theorem silent1 (f : Fact) (d : Int) : ∀ (m n : Nat) (v : List (List Fact)), (v.length + m) ≤ 1000000 → Rn (M_g_silent_L1_B f d) (M_g_silent_L1_E f d) m n v = some (v ++ silOne f m n)
  | 0, n, v, h => by rw [Rn, M_g_silent_L1_E, silOne, List.append_nil]
  | m + 1, n, v, h => by
    rw [Rn, M_g_silent_L1_B, silOne]
    by_cases hn : (n : Int) = f.2
    · rw [show ((n : Int) != f.2) = false from by simp [hn], sel_ff, if_neg (by simp [hn]), List.nil_append]
      exact silent1 f d m (n + 1) v (by omega)
    · rw [show ((n : Int) != f.2) = true from by simp [hn], sel_tt, if_pos hn, grd_t (by omega), ← List.append_assoc]
      exact silent1 f d m (n + 1) _ (by simp; omega)
theorem silent2 (vars : List Int) (hd : ∀ n ∈ vars, 0 ≤ n ∧ n ≤ 64) (e : GEffect) : ∀ (r : List Fact) (i : Int) (v : List (List Fact)), (∀ f ∈ r, 0 ≤ f.1 ∧ f.1 < vars.length) → v.length + r.length * 64 ≤ 100000 →
    Rg (M_g_silent_L2_B vars e) (M_g_silent_L2_E vars e) r i v = some (v ++ silF vars r)
  | [], i, v, hr, h => by rw [Rg, M_g_silent_L2_E, silF, List.flatMap_nil, List.append_nil]
  | f :: r, i, v, hr, h => by
    have hf := hr f (List.mem_cons_self ..)
    obtain ⟨d, hdd⟩ : ∃ d, vars[f.1.toNat]? = some d := ⟨_, List.getElem?_eq_getElem (by omega)⟩
    have hd' := hd d (List.mem_of_getElem? hdd)
    rw [Rg, M_g_silent_L2_B, ixv, ix_getD (d := 0) hf.1 hf.2, List.getD_eq_getElem?_getD, hdd, Option.getD_some, M_g_silent_L1_eq f d v (m := d.toNat) (by omega) (by omega)]
    have h1 := silent1 f d d.toNat 0 v (by rw [List.length_cons] at h; omega)
    rw [show ((0 : Nat) : Int) = 0 from rfl] at h1
    rw [h1, ob1_some, silent2 vars hd e r _ _ (fun u hu => hr u (List.mem_cons_of_mem _ hu)) (by have := silOne_len f d.toNat 0; rw [List.length_cons] at h; rw [List.length_append]; omega)]
    rw [silF, silF, List.flatMap_cons, List.append_assoc, List.getD_eq_getElem?_getD, hdd, Option.getD_some]
theorem silent_eq (vars : List Int) (hd : ∀ n ∈ vars, 0 ≤ n ∧ n ≤ 64) (e : GEffect) (hv : vars.length ≤ 64) (hw : propF vars (-1) e.When = true) :
    M_g_silent vars e = some (capR (silF vars e.When)) := by
  have hl := prop_len hv hw
  obtain ⟨h1, h2⟩ := (propF_iff vars _ (-1)).1 hw
  have hn := ((vF_iff' _).1 h1).1
  rw [M_g_silent, M_g_silent_L2_eq vars e [] (by omega), silent2 vars hd e e.When 0 [] (fun f hf => ⟨(hn f hf).1, (h2 f hf).1⟩) (by simp; omega), ob1_some, List.nil_append, sel_dec, capR]
  by_cases h : (silF vars e.When).length ≤ 1024
  · rw [if_neg (by omega), if_pos h, grd_t (by omega)]
  · rw [if_pos (by omega), if_neg h]
end Go.Proofs.Yteapjpgabdegnaa.Am
/- Plain laws: regress.cases, preimage. -/
namespace Go.Proofs.Yteapjpgabdegnaa.Am
open Go.RowKit
def capO (l : List (List Fact)) : Option (List (List Fact)) := if l.length ≤ 1024 then some l else none
def resR : Option (List (List Fact)) → List (List Fact) × Er
  | some l => (l, Er.nil)
  | none => ([], Er.no 5)
theorem capR_res (l : List (List Fact)) : capR l = resR (capO l) := by unfold capR capO; split <;> rfl
theorem capO_some {l m : List (List Fact)} (h : capO l = some m) : m = l ∧ l.length ≤ 1024 := by
  unfold capO at h; split at h
  · exact ⟨(Option.some.inj h).symm, ‹_›⟩
  · cases h
theorem ob2_res {γ : Type} {K : List (List Fact) → Option γ} {F : Int → Option γ} : ∀ o : Option (List (List Fact)), ob2 (some (resR o)) (fun z e => erM e (K z) F) = match o with | some l => K l | none => F 5
  | some _ => rfl
  | none => rfl
def quietG (vars : List Int) (f : Fact) : List GEffect → List (List Fact) → Option (List (List Fact))
  | [], l => some l
  | e :: r, l => if e.Val = f.2 then quietG vars f r l else (capO (silF vars e.When)).bind fun q => (capO (joinLL l q)).bind fun j => quietG vars f r j
def casesG (vars : List Int) (f : Fact) : List GEffect → Option (List (List Fact))
  | [] => some []
  | e :: r => (casesG vars f r).bind fun out => if e.Val = f.2 then (quietG vars f r [e.When]).map (fun l => l.foldl addN out) else some out
def casesE (vars : List Int) (f : Fact) (es : List GEffect) : Option (List (List Fact)) := (casesG vars f es).bind fun out => (quietG vars f es [[f]]).map (fun l => l.foldl addN out)
def casesO (vars : List Int) (o : GOp) (f : Fact) : Option (List (List Fact)) := (casesE vars f (o.Effs.filter (fun e => e.Var == f.1))).bind capO
structure Ok (vars : List Int) : Prop where
  len : vars.length ≤ 64
  dom : ∀ n ∈ vars, 0 ≤ n ∧ n ≤ 64
abbrev WhenP (vars : List Int) (es : List GEffect) : Prop := ∀ e ∈ es, propF vars (-1) e.When = true
theorem quietG_prop {vars : List Int} {f : Fact} : ∀ {es : List GEffect} {l j : List (List Fact)}, WhenP vars es → PropL vars l → l.length ≤ 1024 → quietG vars f es l = some j → PropL vars j ∧ j.length ≤ 1024
  | [], l, j, _, hl, hc, h => by rw [quietG] at h; cases h; exact ⟨hl, hc⟩
  | e :: r, l, j, he, hl, hc, h => by
    have he' : WhenP vars r := fun u hu => he u (List.mem_cons_of_mem _ hu)
    rw [quietG] at h
    split at h
    · exact quietG_prop he' hl hc h
    · cases hq : capO (silF vars e.When) with
      | none => rw [hq] at h; cases h
      | some q =>
        rw [hq, Option.bind_some] at h
        cases hj : capO (joinLL l q) with
        | none => rw [hj] at h; cases h
        | some m =>
          rw [hj, Option.bind_some] at h
          obtain ⟨rfl, -⟩ := capO_some hq
          obtain ⟨rfl, hc'⟩ := capO_some hj
          exact quietG_prop he' (joinLL_prop hl (silF_prop (he e (List.mem_cons_self ..)))) hc' h
theorem foldN_mem {α : Type} [DecidableEq α] (x : α) : ∀ (l out : List α), x ∈ l.foldl addN out ↔ x ∈ out ∨ x ∈ l
  | [], out => by simp
  | y :: r, out => by rw [List.foldl_cons, foldN_mem x r, addN_mem, List.mem_cons, or_assoc]
theorem foldN_len {α : Type} [DecidableEq α] : ∀ (l out : List α), (l.foldl addN out).length ≤ out.length + l.length
  | [], out => by simp
  | y :: r, out => by
    rw [List.foldl_cons]
    have h1 := foldN_len r (addN out y)
    have h2 : (addN out y).length ≤ out.length + 1 := by unfold addN; split <;> simp
    rw [List.length_cons]; omega
theorem casesG_prop {vars : List Int} {f : Fact} : ∀ {es : List GEffect} {j : List (List Fact)}, WhenP vars es → casesG vars f es = some j → PropL vars j ∧ j.length ≤ es.length * 1024
  | [], j, _, h => by rw [casesG] at h; cases h; exact ⟨(fun _ h => nomatch h), Nat.le_refl _⟩
  | e :: r, j, he, h => by
    have he' : WhenP vars r := fun u hu => he u (List.mem_cons_of_mem _ hu)
    rw [casesG] at h
    cases hr : casesG vars f r with
    | none => rw [hr] at h; cases h
    | some out =>
      obtain ⟨i1, i2⟩ := casesG_prop he' hr
      rw [hr, Option.bind_some] at h
      split at h
      · cases hq : quietG vars f r [e.When] with
        | none => rw [hq] at h; cases h
        | some q =>
          rw [hq, Option.map_some] at h
          cases h
          obtain ⟨q1, q2⟩ := quietG_prop he' (fun x hx => by rw [List.mem_singleton.1 hx]; exact he e (List.mem_cons_self ..)) (by simp) hq
          refine ⟨fun x hx => ?_, ?_⟩
          · rcases (foldN_mem x q out).1 hx with h | h
            · exact i1 x h
            · exact q1 x h
          · have := foldN_len q out
            rw [List.length_cons]; omega
      · obtain rfl := Option.some.inj h
        refine ⟨i1, Nat.le_trans i2 (Nat.mul_le_mul_right _ ?_)⟩
        rw [List.length_cons]; omega
def sumR : Option (List (List Fact)) → List (List Fact) ⊕ (List (List Fact) × Er)
  | some l => .inl l
  | none => .inr ([], Er.no 5)
theorem cases2 {vars : List Int} (ho : Ok vars) (f : Fact) (g : Nat) (hg : 21 ≤ g) (es : List GEffect) (n : Nat) (hes : es.length ≤ 64) (hp : WhenP vars es) (i : Int) (hi : IntKind.i64.wrap (i + 1) = (n : Int)) : ∀ (r : List GEffect) (k : Nat) (l : List (List Fact)), es.drop (n + k) = r → PropL vars l → l.length ≤ 1024 →
    Rn (M_g_cases_L2_B vars f g es i) (M_g_cases_L2_E vars f g es i) r.length k l = some (sumR (quietG vars f r l))
  | [], k, l, hr, hl, hc => by rw [List.length_nil, Rn, M_g_cases_L2_E, quietG, sumR]
  | e :: r, k, l, hr, hl, hc => by
    obtain ⟨hy, hd, hlt⟩ := drop_cons hr
    have hd' : es.drop (n + (k + 1)) = r := hd
    have hw := hp e (List.mem_of_getElem? hy)
    rw [List.length_cons, Rn, M_g_cases_L2_B, hi, Int.toNat_natCast, Int.toNat_natCast, ixn_at hy, grd_t (by omega), grd_t (by omega), quietG]
    by_cases hv : e.Val = f.2
    · rw [show (e.Val == f.2) = true from by simp [hv], sel_tt, if_pos hv]
      exact cases2 ho f g hg es n hes hp i hi r (k + 1) l hd' hl hc
    · rw [show (e.Val == f.2) = false from by simp [hv], sel_ff, if_neg hv, silent_eq vars ho.dom e ho.len hw, capR_res, ob2_res]
      cases hq : capO (silF vars e.When) with
      | none => rfl
      | some q =>
        obtain ⟨rfl, hqc⟩ := capO_some hq
        have hqp := silF_prop hw
        rw [Option.bind_some]
        show ob2 (M_g_join g l (silF vars e.When)) _ = _
        rw [rjoin_eq vars ho.len g hg l _ hl hqp (Nat.le_trans hc (by decide)) (Nat.le_trans hqc (by decide)), capR_res, ob2_res]
        cases hj : capO (joinLL l (silF vars e.When)) with
        | none => rfl
        | some m =>
          obtain ⟨rfl, hmc⟩ := capO_some hj
          rw [Option.bind_some]
          exact cases2 ho f g hg es n hes hp i hi r (k + 1) _ hd' (joinLL_prop hl hqp) hmc
theorem cases_1_eq (x y : List Fact) (hy : Sh y) : M_g_cases_1 x y = some (decide (y = x)) := by
  rw [M_g_cases_1, compare_eq y x hy, ob1_some]
  congr 1
  by_cases h : y = x
  · rw [decide_eq_true h, beq_iff_eq, cmpLF_zero, h]
  · rw [decide_eq_false h, beq_eq_false_iff_ne, Ne, cmpLF_zero]; exact h
theorem any_mem (l : List (List Fact)) (x : List Fact) : l.any (fun y => decide (y = x)) = decide (x ∈ l) := by
  rw [Bool.eq_iff_iff, List.any_eq_true, decide_eq_true_iff]
  constructor
  · rintro ⟨y, hy, h⟩; rw [← of_decide_eq_true h]; exact hy
  · intro h; exact ⟨x, h, decide_eq_true rfl⟩
theorem cases3 (q : List (List Fact)) : ∀ (r : List (List Fact)) (i : Int) (v : List (List Fact)), v.length + r.length ≤ 1000000 → (∀ x ∈ v, Sh x) → (∀ x ∈ r, Sh x) →
    Rg (M_g_cases_L3_B q) (M_g_cases_L3_E q) r i v = some (.inl (r.foldl addN v))
  | [], i, v, _, _, _ => rfl
  | y :: r, i, v, h, hv, hr => by
    have hr' : ∀ x ∈ r, Sh x := fun u hu => hr u (List.mem_cons_of_mem _ hu)
    rw [List.length_cons] at h
    rw [Rg, M_g_cases_L3_B, ixv, grd_t (by omega), containsFunc_eq (p := fun x => decide (x = y)) (by show _ ≤ _; omega) (fun x hx => cases_1_eq y x (hv x hx)), ob1_some, any_mem, List.foldl_cons]
    by_cases hm : y ∈ v
    · rw [decide_eq_true hm, Bool.not_true, sel_ff, addN, if_pos hm]
      exact cases3 q r _ v (by omega) hv hr'
    · rw [decide_eq_false hm, Bool.not_false, sel_tt, addN, if_neg hm, grd_t (by omega)]
      refine cases3 q r _ _ (by rw [List.length_append, List.length_singleton]; omega) (fun x hx => ?_) hr'
      rcases List.mem_append.1 hx with h | h
      · exact hv x h
      · rw [List.mem_singleton.1 h]; exact hr y (List.mem_cons_self ..)
theorem casesG_none {vars : List Int} {f : Fact} {es : List GEffect} : ∀ n : Nat, casesG vars f (es.drop n) = none → casesG vars f es = none
  | 0, h => h
  | n + 1, h => by
    refine casesG_none n ?_
    rcases Nat.lt_or_ge n es.length with hn | hn
    · obtain ⟨y, -, hd⟩ := drop_at hn
      rw [hd, casesG, h]; rfl
    · rw [List.drop_eq_nil_of_le hn]
      rw [List.drop_eq_nil_of_le (by omega)] at h
      exact h
theorem cases23 {vars : List Int} (ho : Ok vars) (f : Fact) (g : Nat) (hg : 21 ≤ g) (es : List GEffect) (n : Nat) (hes : es.length ≤ 64) (hp : WhenP vars es) (hn : n ≤ es.length) (l out : List (List Fact)) (hl : PropL vars l) (hlc : l.length ≤ 1024) (hout : PropL vars out) (hoc : out.length ≤ 70000) :
    ob1 (grd (0 ≤ (IntKind.i64.wrap (((n : Int) - 1) + 1))) (grd ((IntKind.i64.wrap (((n : Int) - 1) + 1)).toNat ≤ es.length) (M_g_cases_L2 vars f g es ((n : Int) - 1) ((((es.length - (IntKind.i64.wrap (((n : Int) - 1) + 1)).toNat : Nat) : Int)).toNat + 1) l 0)))
      (osum (fun v892 => M_g_cases_L3 v892 ((((v892.map cL_cF).length : Int)).toNat + 1) 0 out) (fun (r893, r894) => some (.inr (r893, r894)))) =
    some (sumR ((quietG vars f (es.drop n) l).map (fun l => l.foldl addN out))) := by
  have hi : IntKind.i64.wrap (((n : Int) - 1) + 1) = (n : Int) := by rw [w64 (by omega) (by omega)]; omega
  have h2 := cases2 ho f g hg es n hes hp _ hi (es.drop n) 0 l rfl hl hlc
  rw [M_g_cases_L2_eq vars f g es _ l (m := (es.drop n).length) (by rw [hi, List.length_drop]; rfl) (by rw [List.length_drop]; omega), hi, grd_t (by omega), grd_t (by omega)]
  rw [show ((0 : Nat) : Int) = 0 from rfl] at h2
  rw [h2, ob1_some]
  cases hq : quietG vars f (es.drop n) l with
  | none => rfl
  | some q =>
    obtain ⟨q1, q2⟩ := quietG_prop (fun e he => hp e (List.mem_of_mem_drop he)) hl hlc hq
    rw [sumR, osum_inl, M_g_cases_L3_eq q out (by omega), cases3 q q 0 out (by omega) (fun x hx => prop_sh ho.len (hout x hx)) (fun x hx => prop_sh ho.len (q1 x hx))]
    rfl
theorem cases4 {vars : List Int} (ho : Ok vars) (f : Fact) (g : Nat) (hg : 21 ≤ g) (es : List GEffect) (hes : es.length ≤ 64) (hp : WhenP vars es) (hf : propF vars (-1) [f] = true) : ∀ (n : Nat) (k : Nat) (out : List (List Fact)), n ≤ es.length → casesG vars f (es.drop n) = some out →
    M_g_cases_L4 vars f g es (n + 2 + k) ((n : Int) - 1) out = some (sumR (casesE vars f es))
  | 0, k, out, hn, h => by
    obtain ⟨o1, o2⟩ := casesG_prop (fun e he => hp e (List.mem_of_mem_drop he)) h
    rw [show 0 + 2 + k = (0 + 1 + k) + 1 from by omega, M_g_cases_L4, sel_dec, if_pos (by decide), sel_dec, if_neg (by decide), ob1_some, osum_inl,
      cases23 ho f g hg es 0 hes hp hn [[f]] out (fun x hx => by rw [List.mem_singleton.1 hx]; exact hf) (by simp) o1 (by rw [List.drop_zero] at o2; omega), ob1_some, casesE]
    rw [List.drop_zero] at h ⊢
    rw [h, Option.bind_some]
    cases (quietG vars f es [[f]]) with
    | none => rfl
    | some q =>
      rw [Option.map_some, sumR, osum_inl, show 0 + 1 + k = k + 1 from by omega, M_g_cases_L4, sel_dec, if_neg (by decide)]
  | n + 1, k, out, hn, h => by
    obtain ⟨e, hy, hd⟩ := drop_at (l := es) (n := n) (by omega)
    obtain ⟨o1, o2⟩ := casesG_prop (fun e he => hp e (List.mem_of_mem_drop he)) h
    rw [show n + 1 + 2 + k = (n + 2 + k) + 1 from by omega, M_g_cases_L4, sel_dec, if_pos (by omega), sel_dec, if_pos (by omega), show ((n + 1 : Nat) : Int) - 1 = (n : Int) from by omega, Int.toNat_natCast, ixn_at hy, grd_t (by omega), grd_t (by omega)]
    have hnext : IntKind.i64.wrap ((n : Int) - 1) = (n : Int) - 1 := w64 (by omega) (by omega)
    have hG : casesG vars f (es.drop n) = if e.Val = f.2 then (quietG vars f (es.drop (n + 1)) [e.When]).map (fun l => l.foldl addN out) else some out := by rw [hd, casesG, h]; rfl
    by_cases hv : e.Val = f.2
    · rw [if_pos hv] at hG
      have h23 := cases23 ho f g hg es (n + 1) hes hp hn [e.When] out (fun x hx => by rw [List.mem_singleton.1 hx]; exact hp e (List.mem_of_getElem? hy)) (by simp) o1 (by rw [List.length_drop] at o2; omega)
      rw [show ((n + 1 : Nat) : Int) - 1 = (n : Int) from by omega, ← hG] at h23
      rw [show (e.Val != f.2) = false from by simp [hv], sel_ff, ixn_at hy, ob1_some, osum_inl, h23, ob1_some]
      cases hc : casesG vars f (es.drop n) with
      | none => rw [sumR, osum_inr, casesE, casesG_none n hc]; rfl
      | some out' =>
        rw [sumR, osum_inl, hnext]
        exact cases4 ho f g hg es hes hp hf n k out' (by omega) hc
    · rw [if_neg hv] at hG
      rw [show (e.Val != f.2) = true from by simp [hv], sel_tt, ob1_some, osum_inr, ob1_some, osum_inl, hnext]
      exact cases4 ho f g hg es hes hp hf n k out (by omega) hG
theorem cases1 (o : GOp) (f : Fact) : ∀ (r : List GEffect) (i : Int) (v : List GEffect), v.length + r.length ≤ 1000000 → Rg (M_g_cases_L1_B o f) (M_g_cases_L1_E o f) r i v = some (v ++ r.filter (fun e => e.Var == f.1))
  | [], i, v, h => by rw [Rg, M_g_cases_L1_E, List.filter_nil, List.append_nil]
  | e :: r, i, v, h => by
    rw [List.length_cons] at h
    rw [Rg, M_g_cases_L1_B, ixv]
    cases hv : e.Var == f.1 with
    | true =>
      rw [sel_tt, grd_t (by omega), cases1 o f r _ _ (by rw [List.length_append, List.length_singleton]; omega), List.filter_cons, hv, if_pos rfl, List.append_assoc, List.singleton_append]
    | false =>
      rw [sel_ff, cases1 o f r _ _ (by omega), List.filter_cons, hv, if_neg (by decide)]
theorem cases_eq {vars : List Int} (ho : Ok vars) (o : GOp) (f : Fact) (g : Nat) (hg : 70 ≤ g) (hes : o.Effs.length ≤ 64) (hp : WhenP vars o.Effs) (hf : propF vars (-1) [f] = true) :
    M_g_cases g vars o f = some (resR (casesO vars o f)) := by
  rw [M_g_cases, M_g_cases_L1_eq o f [] (by omega), cases1 o f o.Effs 0 [] (by simp; omega), List.nil_append, ob1_some, casesO]
  have hle : (o.Effs.filter (fun e => e.Var == f.1)).length ≤ 64 := Nat.le_trans (List.length_filter_le _ _) hes
  have hp' : WhenP vars (o.Effs.filter (fun e => e.Var == f.1)) := fun e he => hp e (List.mem_filter.1 he).1
  generalize o.Effs.filter (fun e => e.Var == f.1) = es at hle hp'
  have h4 := cases4 ho f g (by omega) es hle hp' hf es.length (g - (es.length + 2)) [] (Nat.le_refl _) (by rw [List.drop_length, casesG])
  rw [show es.length + 2 + (g - (es.length + 2)) = g from by omega] at h4
  rw [w64 (by omega) (by omega), h4, ob1_some]
  cases casesE vars f es with
  | none => rfl
  | some l =>
    rw [sumR, osum_inl, sel_dec, Option.bind_some, capO]
    by_cases h : l.length ≤ 1024
    · rw [if_neg (by omega), if_pos h]; exact grd_t (by omega)
    · rw [if_pos (by omega), if_neg h]; rfl
end Go.Proofs.Yteapjpgabdegnaa.Am
/- Plain laws: regress.preimage, partial.Minimal, regress.Regress, Possible. -/
namespace Go.Proofs.Yteapjpgabdegnaa.Am
open Go.RowKit
-- preimage
def mapC (vars : List Int) (o : GOp) : List Fact → Option (List (List (List Fact)))
  | [] => some []
  | f :: r => (casesO vars o f).bind fun c => (mapC vars o r).map (c :: ·)
def foldJ : List (List (List Fact)) → List (List Fact) → Option (List (List Fact))
  | [], l => some l
  | c :: r, l => (capO (joinLL l c)).bind (foldJ r)
/-- the last list of the computation -/
def regG (vars : List Int) (o : GOp) : List Fact → List (List Fact) → Option (List (List Fact))
  | [], l => some l
  | f :: r, l => (casesO vars o f).bind fun c => (capO (joinLL l c)).bind (regG vars o r)
theorem mapC_foldJ (vars : List Int) (o : GOp) : ∀ (p : List Fact) (l : List (List Fact)), (mapC vars o p).bind (fun cs => foldJ cs l) = regG vars o p l
  | [], l => rfl
  | f :: r, l => by
    rw [mapC, regG]
    cases casesO vars o f with
    | none => rfl
    | some c =>
      rw [Option.bind_some, Option.bind_some]
      cases hc : capO (joinLL l c) with
      | none => cases mapC vars o r <;> simp [foldJ, hc]
      | some j =>
        rw [Option.bind_some, ← mapC_foldJ vars o r j]
        cases mapC vars o r <;> simp [foldJ, hc]
theorem casesO_prop {vars : List Int} {o : GOp} {f : Fact} {c : List (List Fact)} (hp : WhenP vars o.Effs) (hf : propF vars (-1) [f] = true) (h : casesO vars o f = some c) : PropL vars c ∧ c.length ≤ 1024 := by
  unfold casesO at h
  have hp' : WhenP vars (o.Effs.filter (fun e => e.Var == f.1)) := fun e he => hp e (List.mem_filter.1 he).1
  generalize o.Effs.filter (fun e => e.Var == f.1) = es at h hp'
  cases he : casesE vars f es with
  | none => rw [he] at h; cases h
  | some l =>
    rw [he, Option.bind_some] at h
    obtain ⟨rfl, hc⟩ := capO_some h
    refine ⟨?_, hc⟩
    unfold casesE at he
    cases hg : casesG vars f es with
    | none => rw [hg] at he; cases he
    | some out =>
      rw [hg, Option.bind_some] at he
      cases hq : quietG vars f es [[f]] with
      | none => rw [hq] at he; cases he
      | some q =>
        rw [hq, Option.map_some] at he
        cases he
        intro x hx
        rcases (foldN_mem x q out).1 hx with h | h
        · exact (casesG_prop hp' hg).1 x h
        · exact (quietG_prop hp' (fun x hx => by rw [List.mem_singleton.1 hx]; exact hf) (by simp) hq).1 x h
theorem propF_one {vars : List Int} {p : List Fact} (h : propF vars (-1) p = true) {f : Fact} (hf : f ∈ p) : propF vars (-1) [f] = true := by
  obtain ⟨h1, h2⟩ := (propF_iff vars p (-1)).1 h
  have hn := ((vF_iff' p).1 h1).1 f hf
  refine (propF_iff vars _ (-1)).2 ⟨(vF_iff' _).2 ⟨fun x hx => ?_, List.pairwise_singleton ..⟩, fun x hx => ?_⟩
  · rw [List.mem_singleton.1 hx]; exact hn
  · rw [List.mem_singleton.1 hx]; exact h2 f hf
def sumC : Option (List (List (List Fact))) → List (List (List Fact)) ⊕ (List (List Fact) × Er)
  | some l => .inl l
  | none => .inr ([], Er.no 5)
theorem pre1 (t : GTask) (ho : Ok t.Vars) (p : List Fact) (hpf : propF t.Vars (-1) p = true) (g : Nat) (hg : 70 ≤ g) (o : GOp) (hes : o.Effs.length ≤ 64) (hp : WhenP t.Vars o.Effs) : ∀ (r : List Fact) (acc : List (List (List Fact))), (∀ f ∈ r, f ∈ p) →
    Rg (M_g_preimage_L1_B t p g o) (M_g_preimage_L1_E t p g o) r acc.length (acc ++ List.replicate r.length []) = some (sumC ((mapC t.Vars o r).map (acc ++ ·)))
  | [], acc, hr => by rw [Rg, M_g_preimage_L1_E, mapC, Option.map_some]; rfl
  | f :: r, acc, hr => by
    have hf := hr f (List.mem_cons_self ..)
    rw [Rg, M_g_preimage_L1_B, ixv, cases_eq ho o f g hg hes hp (propF_one hpf hf), ob2_res, mapC]
    cases casesO t.Vars o f with
    | none => rfl
    | some c =>
      have he : (acc ++ List.replicate (f :: r).length ([] : List (List Fact)))[acc.length]? = some [] := by simp [List.replicate_succ]
      have hs : (acc ++ List.replicate (f :: r).length ([] : List (List Fact))).set acc.length c = (acc ++ [c]) ++ List.replicate r.length [] := by
        rw [List.set_append_right _ _ (Nat.le_refl _), Nat.sub_self, List.length_cons, List.replicate_succ, List.set_cons_zero, List.append_assoc, List.singleton_append]
      rw [Option.bind_some]
      show ixn _ _ _ = _
      rw [Int.toNat_natCast, ixn_at he, grd_t (by simp; omega), hs]
      have ih := pre1 t ho p hpf g hg o hes hp r (acc ++ [c]) (fun u hu => hr u (List.mem_cons_of_mem _ hu))
      rw [show ((acc ++ [c]).length : Int) = (acc.length : Int) + 1 from by simp] at ih
      rw [ih]
      cases mapC t.Vars o r with
      | none => rfl
      | some cs => simp
theorem pre2 {vars : List Int} (hv : vars.length ≤ 64) (g : Nat) (hg : 21 ≤ g) (cs : List (List (List Fact))) (hcs : ∀ c ∈ cs, PropL vars c ∧ c.length ≤ 1024) : ∀ (r : List (List (List Fact))) (n : Nat) (l : List (List Fact)), cs.drop n = r → PropL vars l → l.length ≤ 1024 →
    Rn (M_g_preimage_L2_B g cs) (M_g_preimage_L2_E g cs) r.length n l = some (resR (foldJ r l))
  | [], n, l, h, hl, hc => by rw [List.length_nil, Rn, M_g_preimage_L2_E, foldJ, resR]
  | c :: r, n, l, h, hl, hc => by
    obtain ⟨hy, hd, hlt⟩ := drop_cons h
    obtain ⟨c1, c2⟩ := hcs c (List.mem_of_getElem? hy)
    rw [List.length_cons, Rn, M_g_preimage_L2_B, Int.toNat_natCast, ixn_at hy, grd_t (by omega), grd_t (by omega), rjoin_eq vars hv g hg l c hl c1 (Nat.le_trans hc (by decide)) (Nat.le_trans c2 (by decide)), capR_res, ob2_res, foldJ]
    cases hj : capO (joinLL l c) with
    | none => rfl
    | some m =>
      obtain ⟨rfl, hm⟩ := capO_some hj
      rw [Option.bind_some]
      exact pre2 hv g hg cs hcs r (n + 1) _ hd (joinLL_prop hl c1) hm
theorem mapC_prop {vars : List Int} {o : GOp} (hp : WhenP vars o.Effs) : ∀ {p : List Fact} {cs : List (List (List Fact))}, (∀ f ∈ p, propF vars (-1) [f] = true) → mapC vars o p = some cs → (∀ c ∈ cs, PropL vars c ∧ c.length ≤ 1024) ∧ cs.length = p.length
  | [], cs, _, h => by rw [mapC] at h; cases h; exact ⟨(fun _ h => nomatch h), rfl⟩
  | f :: r, cs, hf, h => by
    rw [mapC] at h
    cases hc : casesO vars o f with
    | none => rw [hc] at h; cases h
    | some c =>
      rw [hc, Option.bind_some] at h
      cases hr : mapC vars o r with
      | none => rw [hr] at h; cases h
      | some ds =>
        rw [hr, Option.map_some] at h
        obtain rfl := Option.some.inj h
        obtain ⟨i1, i2⟩ := mapC_prop hp (fun u hu => hf u (List.mem_cons_of_mem _ hu)) hr
        refine ⟨fun x hx => ?_, by rw [List.length_cons, List.length_cons, i2]⟩
        rcases List.mem_cons.1 hx with rfl | hx
        · exact casesO_prop hp (hf f (List.mem_cons_self ..)) hc
        · exact i1 x hx
structure OkO (vars : List Int) (o : GOp) : Prop where
  effs : o.Effs.length ≤ 64
  when : WhenP vars o.Effs
  pre : propF vars (-1) o.Pre = true
theorem good_ok {t : GTask} (h : goodF t = true) : Ok t.Vars := by
  unfold goodF at h
  simp only [Bool.and_eq_true, decide_eq_true_iff, List.all_eq_true] at h
  exact ⟨h.1.1, fun n hn => by have := h.2.1 n hn; omega⟩
theorem good_op {t : GTask} (h : goodF t = true) {o : GOp} (ho : o ∈ t.Ops) : OkO t.Vars o := by
  unfold goodF at h
  simp only [Bool.and_eq_true, List.all_eq_true] at h
  have h1 := h.2.2.2.2 o ho
  unfold opF at h1
  simp only [Bool.and_eq_true, decide_eq_true_iff, List.all_eq_true] at h1
  refine ⟨h1.1.2.2.1, fun e he => ?_, h1.2.1⟩
  have h2 := h1.2.2.2 e he
  unfold effF at h2
  exact (Bool.and_eq_true _ _ ▸ h2).1
theorem preimage_eq (t : GTask) (ht : ShT t) (hgood : goodF t = true) (p : List Fact) (hpf : propF t.Vars (-1) p = true) (g : Nat) (hg : 70 ≤ g) (op : Int) (o : GOp) (h0 : 0 ≤ op) (hop : t.Ops[op.toNat]? = some o) :
    M_g_preimage g t op p = some (resR (regG t.Vars o p [o.Pre])) := by
  have ok := good_ok hgood
  have oo := good_op hgood (List.mem_of_getElem? hop)
  have hlt := lt_some hop
  have hpl := prop_len ok.len hpf
  have hpre := prop_len ok.len oo.pre
  obtain ⟨k, rfl⟩ : ∃ k : Nat, op = k := ⟨op.toNat, by omega⟩
  rw [Int.toNat_natCast] at hop hlt
  rw [M_g_preimage, check_eq t ht, (good_check t).1 hgood, ob1_some]
  show ob1 _ _ = _
  rw [sel_dec, if_neg (by omega), sel_dec, if_neg (by rw [List.length_map]; omega), ob1_some, osum_inl, facts_eq _ _ (by show _ ≤ _; omega), hpf, ob1_some, Bool.not_true, sel_ff, ix_at hop,
    grd_t (by omega), grd_t (by rw [List.length_map]; omega), M_g_preimage_L1_eq t p g o _ (by omega)]
  have h1 := pre1 t ok p hpf g hg o oo.effs oo.when p [] (fun _ h => h)
  rw [List.nil_append] at h1
  rw [List.length_map, Int.toNat_natCast]
  have h1' : Rg (M_g_preimage_L1_B t p g o) (M_g_preimage_L1_E t p g o) p 0 (List.replicate p.length []) = some (sumC (mapC t.Vars o p)) := by
    rw [show ((([] : List (List (List Fact))).length : Nat) : Int) = 0 from rfl] at h1
    rw [h1]; cases mapC t.Vars o p <;> rfl
  rw [h1', ob1_some, ← mapC_foldJ]
  cases hm : mapC t.Vars o p with
  | none => rfl
  | some cs =>
    obtain ⟨c1, c2⟩ := mapC_prop oo.when (fun f hf => propF_one hpf hf) hm
    rw [sumC, osum_inl, M_cloneF, grd_t (by omega), ob1_some, grd_t (by omega), M_g_preimage_L2_eq g cs [o.Pre] (m := cs.length) rfl (by omega), Option.bind_some]
    exact pre2 ok.len g (by omega) cs c1 cs 0 [o.Pre] rfl (fun x hx => by rw [List.mem_singleton.1 hx]; exact oo.pre) (by simp)
-- Minimal
def findF : List Fact → Int → Int
  | [], _ => -1
  | f :: r, v => if f.1 = v then f.2 else findF r v
theorem find_loop (l : List Fact) (v : Int) : ∀ (r : List Fact) (i : Int), Rg (M_p_find_L1_B l v) (M_p_find_L1_E l v) r i () = some (findF r v)
  | [], i => rfl
  | f :: r, i => by
    rw [Rg, M_p_find_L1_B, ixv, findF]
    by_cases h : f.1 = v
    · rw [show (f.1 == v) = true from by simp [h], sel_tt, if_pos h]
    · rw [show (f.1 == v) = false from by simp [h], sel_ff, if_neg h, find_loop l v r]
theorem find_eq (l : List Fact) (v : Int) (hl : Sh l) : M_p_find l v = some (findF l v) := by rw [M_p_find, M_p_find_L1_eq l v hl.lt, find_loop]
theorem findF_mem : ∀ {l : List Fact} {f : Fact}, Asc l → 0 ≤ f.2 → (findF l f.1 = f.2 ↔ f ∈ l)
  | [], f, _, h0 => by rw [findF]; constructor; (intro h; omega); exact (nofun)
  | x :: r, f, ha, h0 => by
    obtain ⟨h1, h2⟩ := List.pairwise_cons.1 ha
    rw [findF, List.mem_cons]
    by_cases h : x.1 = f.1
    · rw [if_pos h]
      constructor
      · intro e; exact Or.inl (Prod.ext h.symm e.symm)
      · rintro (rfl | hm)
        · rfl
        · have := h1 f hm; omega
    · rw [if_neg h, findF_mem h2 h0]
      constructor
      · exact Or.inr
      · rintro (rfl | hm)
        · exact absurd rfl h
        · exact hm
def subF (b a : List Fact) : Bool := b.all fun f => decide (f ∈ a)
theorem subF_iff {a b : List Fact} : subF b a = true ↔ ∀ f ∈ b, f ∈ a := by simp [subF]
theorem contains_eq (a b : List Fact) (ha : Sh a) (hb : Sh b) (hva : vF (-1) a = true) (hvb : vF (-1) b = true) : M_p_contains a b = some (subF b a) := by
  rw [M_p_contains, M_p_contains_L1_eq a b hb.lt, rg_all (p := fun f => decide (f ∈ a)) (c := some false)]
  · rw [M_p_contains_L1_E]; show _ = some (b.all _); cases b.all fun f => decide (f ∈ a) <;> rfl
  · intro y hy i rc
    have h := findF_mem (f := y) ((vF_iff' a).1 hva).2 ((vF_iff' b).1 hvb |>.1 y hy).2
    rw [M_p_contains_L1_B, ixv, find_eq a _ ha, ob1_some]
    by_cases hm : y ∈ a
    · rw [show (findF a y.1 != y.2) = false from by rw [h.2 hm]; simp, sel_ff, decide_eq_true hm, if_pos rfl]
    · rw [show (findF a y.1 != y.2) = true from by rw [bne_iff_ne]; exact fun e => hm (h.1 e), sel_tt, decide_eq_false hm, if_neg (by decide)]
theorem asc_nodup {l : List Fact} (h : Asc l) : l.Nodup := h.imp fun hab e => by rw [e] at hab; omega
theorem sub_len : ∀ {a b : List Fact}, Asc a → Asc b → (∀ f ∈ b, f ∈ a) → b.length ≤ a.length ∧ (b.length = a.length → b = a)
  | [], [], _, _, _ => ⟨Nat.le_refl _, fun _ => rfl⟩
  | [], y :: s, _, _, h => nomatch h y (List.mem_cons_self ..)
  | x :: r, [], _, _, _ => ⟨Nat.zero_le _, fun e => by cases e⟩
  | x :: r, y :: s, ha, hb, h => by
    obtain ⟨h1, h2⟩ := List.pairwise_cons.1 ha
    obtain ⟨k1, k2⟩ := List.pairwise_cons.1 hb
    rcases List.mem_cons.1 (h y (List.mem_cons_self ..)) with e | hy
    · subst e
      obtain ⟨i1, i2⟩ := sub_len h2 k2 (fun z hz => by
        rcases List.mem_cons.1 (h z (List.mem_cons_of_mem _ hz)) with e | h'
        · have := k1 z hz; rw [e] at this; omega
        · exact h')
      refine ⟨by rw [List.length_cons, List.length_cons]; omega, fun e => ?_⟩
      rw [List.length_cons, List.length_cons] at e
      rw [i2 (by omega)]
    · obtain ⟨i1, -⟩ := sub_len (a := r) h2 hb (fun z hz => by
        rcases List.mem_cons.1 (h z hz) with e | h'
        · have l1 := h1 y hy
          rcases List.mem_cons.1 hz with e2 | hz
          · rw [e] at e2; rw [← e2] at l1; omega
          · have l2 := k1 z hz; rw [e] at l2; omega
        · exact h')
      rw [List.length_cons] at i1
      exact ⟨by rw [List.length_cons, List.length_cons]; omega, fun e => by rw [List.length_cons, List.length_cons] at e; omega⟩
theorem nodup_at {α : Type} {l : List α} (h : l.Nodup) {i j : Nat} {x : α} (hi : l[i]? = some x) (hj : l[j]? = some x) : i = j := by
  obtain ⟨b1, b2⟩ := List.getElem?_eq_some_iff.1 hi
  obtain ⟨b3, b4⟩ := List.getElem?_eq_some_iff.1 hj
  rcases Nat.lt_trichotomy i j with hl | hl | hl
  · exact absurd (b2.trans b4.symm) (List.pairwise_iff_getElem.1 h i j b1 b3 hl)
  · exact hl
  · exact absurd (b4.trans b2.symm) (List.pairwise_iff_getElem.1 h j i b3 b1 hl)
def keepF (l : List (List Fact)) (x : List Fact) : Bool := l.all fun y => !(subF y x && decide (y ≠ x))
theorem min1 (vars : List Int) (hv : vars.length ≤ 64) (l : List (List Fact)) (hl : PropL vars l) (hn : l.Nodup) (i : Nat) (x : List Fact) (hx : l[i]? = some x) : ∀ (r : List (List Fact)) (n : Nat), l.drop n = r →
    Rg (M_p_Minimal_L1_B l i x) (M_p_Minimal_L1_E l i x) r n () = some (r.all fun y => !(subF y x && decide (y ≠ x)))
  | [], n, h => rfl
  | y :: r, n, h => by
    obtain ⟨hy, hd, hlt⟩ := drop_cons h
    have hxp := hl x (List.mem_of_getElem? hx)
    have hyp := hl y (List.mem_of_getElem? hy)
    have ih := min1 vars hv l hl hn i x hx r (n + 1) hd
    have vx := propF_vF' hxp
    have vy := propF_vF' hyp
    rw [Rg, M_p_Minimal_L1_B, ixv, List.all_cons]
    by_cases e : i = n
    · subst e
      obtain rfl : x = y := by rw [hx] at hy; exact Option.some.inj hy
      rw [show ((i : Int) != (i : Int)) = false from by simp, sel_ff, decide_eq_false (by simp), Bool.and_false, Bool.not_false, Bool.true_and]
      exact ih
    · have hne : y ≠ x := fun h => e (nodup_at hn hx (h ▸ hy))
      rw [show ((i : Int) != (n : Int)) = true from by rw [bne_iff_ne]; omega, sel_tt, valid_eq y (prop_sh hv hyp), vy, ob1_some, sel_tt, contains_eq x y (prop_sh hv hxp) (prop_sh hv hyp) vx vy, ob1_some, decide_eq_true hne, Bool.and_true]
      cases hs : subF y x with
      | false => rw [sel_ff, Bool.not_false, Bool.true_and]; exact ih
      | true =>
        obtain ⟨s1, s2⟩ := sub_len ((vF_iff' x).1 vx).2 ((vF_iff' y).1 vy).2 (subF_iff.1 hs)
        have : y.length ≠ x.length := fun e => hne (s2 e)
        rw [sel_tt, sel_dec, if_pos (by rw [List.length_map, List.length_map]; omega), Bool.not_true, Bool.false_and]
theorem min2 (vars : List Int) (hv : vars.length ≤ 64) (l : List (List Fact)) (hl : PropL vars l) (hn : l.Nodup) (hc : l.length ≤ 100000) : ∀ (r : List (List Fact)) (n : Nat) (v : List (List Fact)), l.drop n = r → v.length ≤ n →
    Rg (M_p_Minimal_L2_B l) (M_p_Minimal_L2_E l) r n v = some (v ++ r.filter (keepF l))
  | [], n, v, h, hvl => by rw [Rg, M_p_Minimal_L2_E, List.filter_nil, List.append_nil]
  | x :: r, n, v, h, hvl => by
    obtain ⟨hy, hd, hlt⟩ := drop_cons h
    have hxp := hl x (List.mem_of_getElem? hy)
    have hxl := prop_len hv hxp
    rw [Rg, M_p_Minimal_L2_B, ixv, valid_eq x (prop_sh hv hxp), propF_vF' hxp, ob1_some, Bool.not_true, sel_ff, M_p_Minimal_L1_eq l n x (by omega)]
    have h1 := min1 vars hv l hl hn n x hy l 0 rfl
    rw [show ((0 : Nat) : Int) = 0 from rfl] at h1
    rw [h1, ob1_some, List.filter_cons]
    show ob1 (sel (keepF l x) _ _) _ = _
    cases keepF l x with
    | true =>
      rw [sel_tt, M_cloneF, grd_t (by omega), ob1_some, grd_t (by omega), grd_t (by omega), ob1_some, if_pos rfl]
      have := min2 vars hv l hl hn hc r (n + 1) (v ++ [x]) hd (by rw [List.length_append, List.length_singleton]; omega)
      rw [List.append_assoc, List.singleton_append] at this
      exact this
    | false =>
      rw [sel_ff, ob1_some, if_neg (by decide)]
      exact min2 vars hv l hl hn hc r (n + 1) v hd (by omega)
def minF (l : List (List Fact)) : List (List Fact) := l.filter (keepF l)
theorem minimal_eq (vars : List Int) (hv : vars.length ≤ 64) (l : List (List Fact)) (hl : PropL vars l) (hn : l.Nodup) (hc : l.length ≤ 100000) : M_p_Minimal l = some (minF l) := by
  rw [M_p_Minimal, M_p_Minimal_L2_eq l [] (by omega)]
  exact min2 vars hv l hl hn hc l 0 [] rfl (Nat.le_refl _)
theorem sortLL_sorted {l : List (List Fact)} (hn : l.Nodup) : SortedL (sortLL l) := by
  have h := List.pairwise_mergeSort (le := fun x y => !(ltOf cmpLF) y x) (by
    intro a b c h1 h2
    simp only [ltOf, Bool.not_eq_true', decide_eq_false_iff_not] at h1 h2 ⊢
    intro h3
    rw [cmpLF_lt_gt] at h1 h2
    by_cases e1 : cmpLF b a = 0
    · rw [cmpLF_zero.1 e1] at h2; rw [cmpLF_lt_gt] at h3; omega
    · have h4 : cmpLF a b < 0 := by rw [cmpLF_anti b a]; have := cmpLF_anti a b; omega
      have := cmpLF_trans h3 h4
      rw [cmpLF_lt_gt] at this; omega) (by
    intro a b
    simp only [ltOf, Bool.or_eq_true, Bool.not_eq_true', decide_eq_false_iff_not]
    rw [cmpLF_anti a b]; omega) l
  have hn' : (sortLL l).Nodup := (List.mergeSort_perm l _).nodup_iff.2 hn
  refine List.Pairwise.imp₂ (fun a b h1 h2 => ?_) h hn'
  simp only [ltOf, Bool.not_eq_true', decide_eq_false_iff_not] at h1
  have h3 : cmpLF a b ≠ 0 := fun e => h2 (cmpLF_zero.1 e)
  rw [cmpLF_anti a b] at h1
  omega
theorem sortLL_mem (x : List Fact) (l : List (List Fact)) : x ∈ sortLL l ↔ x ∈ l := (List.mergeSort_perm l _).mem_iff
-- Regress
theorem reg1 (z : List (List Fact)) (v : List (List Fact)) (hv : ∀ x ∈ v, x.length ≤ 100000) (hl : v.length ≤ 100000) : ∀ (m n : Nat), n + m = v.length → Rn (M_g_Regress_L1_B z) (M_g_Regress_L1_E z) m n v = some (v, Er.nil)
  | 0, n, h => by rw [Rn, M_g_Regress_L1_E, grd_t (by omega)]
  | m + 1, n, h => by
    obtain ⟨y, hy, -⟩ := drop_at (l := v) (n := n) (by omega)
    have hyl := hv y (List.mem_of_getElem? hy)
    obtain ⟨b1, b2⟩ := List.getElem?_eq_some_iff.1 hy
    have hs : v.set n y = v := by rw [← b2, List.set_getElem_self]
    rw [Rn, M_g_Regress_L1_B, Int.toNat_natCast, ixn_at hy, M_cloneF, grd_t (by omega), ob1_some, ixn_at hy, grd_t (by omega), grd_t (by omega), grd_t (by omega), hs]
    exact reg1 z v hv hl m (n + 1) (by omega)
theorem regG_prop {vars : List Int} {o : GOp} (hp : WhenP vars o.Effs) : ∀ {p : List Fact} {l j : List (List Fact)}, (∀ f ∈ p, propF vars (-1) [f] = true) → PropL vars l → l.Nodup → l.length ≤ 1024 → regG vars o p l = some j → PropL vars j ∧ j.Nodup ∧ j.length ≤ 1024
  | [], l, j, _, h1, h2, h3, h => by rw [regG] at h; obtain rfl := Option.some.inj h; exact ⟨h1, h2, h3⟩
  | f :: r, l, j, hf, h1, h2, h3, h => by
    rw [regG] at h
    cases hc : casesO vars o f with
    | none => rw [hc] at h; cases h
    | some c =>
      rw [hc, Option.bind_some] at h
      cases hj : capO (joinLL l c) with
      | none => rw [hj] at h; cases h
      | some m =>
        rw [hj, Option.bind_some] at h
        obtain ⟨rfl, hm⟩ := capO_some hj
        exact regG_prop hp (fun u hu => hf u (List.mem_cons_of_mem _ hu)) (joinLL_prop h1 (casesO_prop hp (hf f (List.mem_cons_self ..)) hc).1) (joinLL_nodup _ _) hm h
def regO (vars : List Int) (o : GOp) (p : List Fact) : Option (List (List Fact)) := (regG vars o p [o.Pre]).map fun l => sortLL (minF l)
theorem pre_prop {t : GTask} (hgood : goodF t = true) {p : List Fact} (hpf : propF t.Vars (-1) p = true) {o : GOp} (ho : o ∈ t.Ops) {l : List (List Fact)} (h : regG t.Vars o p [o.Pre] = some l) : PropL t.Vars l ∧ l.Nodup ∧ l.length ≤ 1024 := by
  have oo := good_op hgood ho
  exact regG_prop oo.when (fun f hf => propF_one hpf hf) (fun x hx => by rw [List.mem_singleton.1 hx]; exact oo.pre) (by simp) (by simp) h
theorem regress_eq (t : GTask) (ht : ShT t) (hgood : goodF t = true) (p : List Fact) (hpf : propF t.Vars (-1) p = true) (g : Nat) (hg : 70 ≤ g) (op : Int) (o : GOp) (h0 : 0 ≤ op) (hop : t.Ops[op.toNat]? = some o) :
    M_g_Regress g t op p = some (resR (regO t.Vars o p)) := by
  have ok := good_ok hgood
  rw [M_g_Regress, preimage_eq t ht hgood p hpf g hg op o h0 hop, ob2_res, regO]
  cases hr : regG t.Vars o p [o.Pre] with
  | none => rfl
  | some l =>
    obtain ⟨l1, l2, l3⟩ := pre_prop hgood hpf (List.mem_of_getElem? hop) hr
    have hml : (minF l).length ≤ 1024 := Nat.le_trans (List.length_filter_le _ _) l3
    have hmp : ∀ y ∈ minF l, y.length ≤ 64 := fun y hy => prop_len ok.len (l1 y (List.mem_filter.1 hy).1)
    show ob1 _ _ = _
    rw [minimal_eq t.Vars ok.len l l1 l2 (by omega), ob1_some, M_sortL, grd_t (by omega), grd_t (fun y hy => by have := hmp y hy; omega), ob1_some, grd_t (sortLL_length _), M_g_Regress_L1_eq (minF l) _ (m := (minF l).length) rfl (by omega)]
    exact reg1 (minF l) (sortLL (minF l)) (fun x hx => by have := hmp x ((sortLL_mem x _).1 hx); omega) (by rw [sortLL_length]; omega) _ 0 (by rw [sortLL_length]; omega)
end Go.Proofs.Yteapjpgabdegnaa.Am
/- Plain laws: stratagembase.Facts, Is, Holds, Small. -/
namespace Go.Proofs.Yteapjpgabdegnaa.Am
open Go.RowKit
theorem fact_beq (x y : Fact) : (x.1 == y.1 && x.2 == y.2) = decide (x = y) := by
  rw [Bool.eq_iff_iff, Bool.and_eq_true, beq_iff_eq, beq_iff_eq, decide_eq_true_iff, Prod.ext_iff]
theorem bfacts_loop (a b : List Fact) : ∀ (r s : List Fact) (n : Nat), a.drop n = r → b.drop n = s → r.length = s.length → Rg (M_b_Facts_L1_B a b) (M_b_Facts_L1_E a b) r n () = some (decide (r = s))
  | [], [], n, _, _, _ => by rw [Rg, M_b_Facts_L1_E, decide_eq_true rfl]
  | [], _ :: _, n, _, _, h => by cases h
  | _ :: _, [], n, _, _, h => by cases h
  | x :: r, y :: s, n, h1, h2, hl => by
    obtain ⟨hy, hd, -⟩ := drop_cons h2
    have ih := bfacts_loop a b r s (n + 1) (drop_cons h1).2.1 hd (by simpa using hl)
    rw [Rg, M_b_Facts_L1_B, ixv, ix_at hy, fact_beq]
    by_cases e : x = y
    · rw [decide_eq_true e, Bool.not_true, sel_ff]
      refine Eq.trans ih ?_
      subst e; simp
    · rw [decide_eq_false e, Bool.not_false, sel_tt, decide_eq_false]
      intro h; exact e (List.cons.inj h).1
theorem bfacts_eq (a b : List Fact) (ha : Sh a) : M_b_Facts a b = some (decide (a = b)) := by
  rw [M_b_Facts, List.length_map, List.length_map, bne_len]
  by_cases h : a.length = b.length
  · rw [decide_eq_false (by simp [h]), sel_ff]
    have e := M_b_Facts_L1_eq a b ha.lt
    rw [List.length_map] at e
    rw [e]
    exact bfacts_loop a b a b 0 rfl rfl h
  · rw [decide_eq_true h, sel_tt, decide_eq_false]
    rintro rfl; exact h rfl
/-- the number of states, capped -/
def manyF (most : Int) : List Int → Int → Int
  | [], n => n
  | k :: r, n => if n * min (max k 0) (most + 1) > most then most + 1 else manyF most r (n * min (max k 0) (most + 1))
theorem many_loop (most : Int) (hm : 0 ≤ most ∧ most ≤ 1048576) (vars : List Int) : ∀ (r : List Int) (i n : Int), 0 ≤ n → n ≤ 1048576 → Rg (M_b_Many_L1_B vars most) (M_b_Many_L1_E vars most) r i n = some (manyF most r n)
  | [], i, n, _, _ => rfl
  | k :: r, i, n, h0, h1 => by
    have hb : 0 ≤ min (max k 0) (most + 1) ∧ min (max k 0) (most + 1) ≤ 1048577 := by omega
    have h2 : 0 ≤ n * min (max k 0) (most + 1) := Int.mul_nonneg h0 hb.1
    have h3 : n * min (max k 0) (most + 1) ≤ 1048576 * 1048577 := Int.mul_le_mul h1 hb.2 hb.1 (by decide)
    rw [Rg, M_b_Many_L1_B, ixv, w64 (z := most + 1) (by omega) (by omega), w64 (z := n * min (max k 0) (most + 1)) (by omega) (by omega), sel_dec, manyF]
    by_cases h : n * min (max k 0) (most + 1) > most
    · rw [if_pos h, if_pos h]
    · rw [if_neg h, if_neg h]
      exact many_loop most hm vars r _ _ h2 (by omega)
theorem many_eq (vars : List Int) (hv : Sh vars) (most : Int) (hm : 0 ≤ most ∧ most ≤ 1048576) : M_b_Many vars most = some (manyF most vars 1) := by
  rw [M_b_Many, M_b_Many_L1_eq vars most _ hv.lt, many_loop most hm vars vars 0 1 (by decide) (by decide)]
def smallF (t : GTask) : Bool := decide (t.Vars.length ≤ 12 ∧ t.Ops.length ≤ 20) && (t.Ops.all (fun o => decide (o.Effs.length ≤ 8)) && (goodF t && decide (manyF 512 t.Vars 1 ≤ 512)))
theorem small_eq (t : GTask) (ht : ShT t) : M_b_Small t = some (smallF t) := by
  rw [M_b_Small, List.length_map, List.length_map, sel_dec, sel_dec, smallF]
  by_cases h1 : t.Vars.length ≤ 12
  · rw [if_neg (by omega)]
    by_cases h2 : t.Ops.length ≤ 20
    · have e := M_b_Small_L1_eq t ht.ops.lt
      rw [List.length_map] at e
      rw [if_neg (by omega), decide_eq_true ⟨h1, h2⟩, Bool.true_and, ob1_some, osum_inl, e, rg_all (p := fun o : GOp => decide (o.Effs.length ≤ 8)) (c := some (.inr false))]
      · cases t.Ops.all (fun o => decide (o.Effs.length ≤ 8)) with
        | false => rfl
        | true =>
          rw [if_pos rfl, M_b_Small_L1_E, ob1_some, osum_inl, good_eq t ht, ob1_some, Bool.true_and]
          cases goodF t with
          | false => rfl
          | true => rw [sel_tt, many_eq _ ht.vars 512 (by decide), ob1_some, Bool.true_and]
      · intro o _ i rc
        rw [M_b_Small_L1_B, ixv, sel_dec, List.length_map]
        by_cases h : o.Effs.length ≤ 8
        · rw [if_neg (by omega), decide_eq_true h, if_pos rfl]
        · rw [if_pos (by omega), decide_eq_false h, if_neg (by decide)]
    · rw [if_pos (by omega), decide_eq_false (fun h => h2 h.2)]; rfl
  · rw [if_pos (by omega), decide_eq_false (fun h => h1 h.1)]; rfl
theorem small_good {t : GTask} (h : smallF t = true) : goodF t = true ∧ t.Vars.length ≤ 12 ∧ t.Ops.length ≤ 20 := by
  unfold smallF at h
  simp only [Bool.and_eq_true, decide_eq_true_iff] at h
  exact ⟨h.2.2.1, h.1.1, h.1.2⟩
-- joins of given lists
theorem joinO_is {a b p : List Fact} (ha : vF (-1) a = true) (hb : vF (-1) b = true) (hp : vF (-1) p = true) (h : ∀ x, x ∈ p ↔ x ∈ a ∨ x ∈ b) : joinO a b = some p := by
  have hp' := ((vF_iff' p).1 hp).2
  cases hj : joinO a b with
  | some q =>
    obtain ⟨q1, q2⟩ := joinO_some hj
    rw [asc_unique q p ((vF_iff' q).1 q1).2 hp' fun x => by rw [q2, h]]
  | none =>
    refine absurd ?_ (joinO_none ha hb hj)
    intro x hx y hy e
    rw [asc_inj hp' ((h x).2 (List.mem_append.1 hx)) ((h y).2 (List.mem_append.1 hy)) e]
theorem joinO_not {a b : List Fact} {x y : Fact} (hx : x ∈ a) (hy : y ∈ b) (e : x.1 = y.1) (hne : x.2 ≠ y.2) : joinO a b = none := by
  cases hj : joinO a b with
  | none => rfl
  | some q =>
    obtain ⟨q1, q2⟩ := joinO_some hj
    exact absurd (congrArg Prod.snd (asc_inj ((vF_iff' q).1 q1).2 ((q2 x).2 (Or.inl hx)) ((q2 y).2 (Or.inr hy)) e)) hne
end Go.Proofs.Yteapjpgabdegnaa.Am
/- Plain law: what a regression means for the states. -/
namespace Go.Proofs.Yteapjpgabdegnaa.Am
open Go.RowKit
/-- a state: a value in range for each variable -/
structure StP (vars s : List Int) : Prop where
  len : s.length = vars.length
  rng : ∀ v : Nat, v < vars.length → 0 ≤ s.getD v 0 ∧ s.getD v 0 < vars.getD v 0
end Go.Proofs.Yteapjpgabdegnaa.Am
/- Maps as lists of keys and elements. -/
namespace Go.Proofs.Yteapjpgabdegnaa.Am
section
variable {κ ν : Type} [DecidableEq κ]
def getM : List (κ × ν) → κ → Option ν
  | [], _ => none
  | (b, u) :: r, a => if b = a then some u else getM r a
def setM : List (κ × ν) → κ → ν → List (κ × ν)
  | [], a, v => [(a, v)]
  | (b, u) :: r, a, v => if b = a then (a, v) :: r else (b, u) :: setM r a v
theorem getM_none {a : κ} : ∀ {M : List (κ × ν)}, (∀ p ∈ M, p.1 ≠ a) → getM M a = none
  | [], _ => rfl
  | (b, u) :: r, h => by rw [getM, if_neg (h _ (List.mem_cons_self ..))]; exact getM_none fun p hp => h p (List.mem_cons_of_mem _ hp)
theorem getM_at {a : κ} : ∀ {M : List (κ × ν)} {j : Nat} {v : ν}, M[j]? = some (a, v) → (∀ i, i < j → ∀ p, M[i]? = some p → p.1 ≠ a) → getM M a = some v
  | [], j, v, h, _ => by simp at h
  | (b, u) :: r, 0, v, h, _ => by simp at h; obtain ⟨rfl, rfl⟩ := h; rw [getM, if_pos rfl]
  | (b, u) :: r, j + 1, v, h, hne => by
    rw [getM, if_neg (hne 0 (Nat.zero_lt_succ _) (b, u) rfl)]
    exact getM_at (by simpa using h) fun i hi p hp => hne (i + 1) (Nat.succ_lt_succ hi) p (by simpa using hp)
theorem setM_none {a : κ} {v : ν} : ∀ {M : List (κ × ν)}, (∀ p ∈ M, p.1 ≠ a) → setM M a v = M ++ [(a, v)]
  | [], _ => rfl
  | (b, u) :: r, h => by rw [setM, if_neg (h _ (List.mem_cons_self ..)), setM_none fun p hp => h p (List.mem_cons_of_mem _ hp)]; rfl
theorem setM_at {a : κ} {v : ν} : ∀ {M : List (κ × ν)} {j : Nat} {u : ν}, M[j]? = some (a, u) → (∀ i, i < j → ∀ p, M[i]? = some p → p.1 ≠ a) → setM M a v = M.set j (a, v)
  | [], j, v, h, _ => by simp at h
  | (b, u) :: r, 0, _, h, _ => by simp at h; obtain ⟨rfl, rfl⟩ := h; rw [setM, if_pos rfl]; rfl
  | (b, u) :: r, j + 1, _, h, hne => by
    rw [setM, if_neg (hne 0 (Nat.zero_lt_succ _) (b, u) rfl), setM_at (by simpa using h) fun i hi p hp => hne (i + 1) (Nat.succ_lt_succ hi) p (by simpa using hp)]
    rfl
theorem mem_setM {a : κ} {v : ν} (p : κ × ν) : ∀ {M : List (κ × ν)}, (M.map Prod.fst).Nodup → (p ∈ setM M a v ↔ p = (a, v) ∨ (p ∈ M ∧ p.1 ≠ a))
  | [], _ => by simp [setM]
  | (b, u) :: r, h => by
    rw [List.map_cons, List.nodup_cons] at h
    obtain ⟨h1, h2⟩ := h
    rw [setM]
    by_cases e : b = a
    · rw [if_pos e, List.mem_cons, List.mem_cons]
      refine or_congr Iff.rfl ⟨fun hp => ⟨.inr hp, fun e2 => h1 ?_⟩, fun ⟨hp, hne⟩ => hp.resolve_left fun e2 => hne (by rw [e2]; exact e)⟩
      show b ∈ _
      rw [e, ← e2]
      exact List.mem_map_of_mem hp
    · rw [if_neg e, List.mem_cons, mem_setM p h2, List.mem_cons]
      constructor
      · rintro (rfl | hp | ⟨hp, hne⟩)
        · exact .inr ⟨.inl rfl, e⟩
        · exact .inl hp
        · exact .inr ⟨.inr hp, hne⟩
      · rintro (hp | ⟨rfl | hp, hne⟩)
        · exact .inr (.inl hp)
        · exact .inl rfl
        · exact .inr (.inr ⟨hp, hne⟩)
theorem keys_setM {a : κ} {v : ν} : ∀ {M : List (κ × ν)}, (M.map Prod.fst).Nodup → ((setM M a v).map Prod.fst).Nodup ∧ ∀ x, x ∈ (setM M a v).map Prod.fst ↔ x = a ∨ x ∈ M.map Prod.fst
  | [], _ => by simp [setM]
  | (b, u) :: r, h => by
    rw [List.map_cons, List.nodup_cons] at h
    obtain ⟨h1, h2⟩ := h
    obtain ⟨k1, k2⟩ := keys_setM (a := a) (v := v) h2
    rw [setM]
    by_cases e : b = a
    · subst e
      rw [if_pos rfl]
      exact ⟨by rw [List.map_cons, List.nodup_cons]; exact ⟨h1, h2⟩, fun x => by simp⟩
    · rw [if_neg e]
      refine ⟨by rw [List.map_cons, List.nodup_cons]; exact ⟨fun hb => ((k2 b).1 hb).elim e h1, k1⟩, fun x => ?_⟩
      rw [List.map_cons, List.mem_cons, k2, List.map_cons, List.mem_cons]
      constructor
      · rintro (h | h | h)
        · exact .inr (.inl h)
        · exact .inl h
        · exact .inr (.inr h)
      · rintro (h | h | h)
        · exact .inr (.inl h)
        · exact .inl h
        · exact .inr (.inr h)
theorem getM_mem {a : κ} {v : ν} : ∀ {M : List (κ × ν)}, (M.map Prod.fst).Nodup → (getM M a = some v ↔ (a, v) ∈ M)
  | [], _ => by simp [getM]
  | (b, u) :: r, h => by
    rw [List.map_cons, List.nodup_cons] at h
    obtain ⟨h1, h2⟩ := h
    rw [getM]
    by_cases e : b = a
    · subst e
      rw [if_pos rfl, List.mem_cons]
      constructor
      · intro h; injection h with h; rw [h]; exact .inl rfl
      · rintro (h | h)
        · injection h with _ h; rw [h]
        · exact absurd (List.mem_map_of_mem (f := Prod.fst) h) h1
    · rw [if_neg e, getM_mem h2, List.mem_cons]
      exact ⟨.inr, fun h => h.resolve_left fun e2 => e (by injection e2 with e2; exact e2.symm)⟩
theorem nodupL {α : Type} [DecidableEq α] : ∀ (l u : List α), l.Nodup → (∀ x ∈ l, x ∈ u) → l.length ≤ u.length
  | [], u, _, _ => Nat.zero_le _
  | x :: l, u, hn, hs => by
    rw [List.nodup_cons] at hn
    have hx := hs x (List.mem_cons_self ..)
    have := nodupL l (u.erase x) hn.2 fun y hy => (List.mem_erase_of_ne (fun e => hn.1 (by rw [← e]; exact hy))).2 (hs y (List.mem_cons_of_mem _ hy))
    rw [List.length_erase_of_mem hx] at this
    have := List.length_pos_of_mem hx
    rw [List.length_cons]
    omega
omit [DecidableEq κ] in
theorem keys_nodup {M : List (κ × ν)} (h : (M.map Prod.fst).Nodup) : M.Nodup := by
  induction M with
  | nil => exact List.nodup_nil
  | cons p r ih =>
    rw [List.map_cons, List.nodup_cons] at h
    rw [List.nodup_cons]
    exact ⟨fun hp => h.1 (List.mem_map_of_mem hp), ih h.2⟩
end
end Go.Proofs.Yteapjpgabdegnaa.Am
/- Plain: a regression of an operator without conditional effects. -/
namespace Go.Proofs.Yteapjpgabdegnaa.Am
open Go.RowKit
theorem joinX_le (x : List Fact) : ∀ (b out : List (List Fact)), (joinX x b out).length ≤ out.length + b.length
  | [], out => by rw [joinX]; simp
  | y :: r, out => by
    rw [joinX]
    refine Nat.le_trans (joinX_le x r _) ?_
    rw [List.length_cons]
    split
    · unfold addN; split
      · omega
      · rw [List.length_append, List.length_cons, List.length_nil]; omega
    · omega
theorem joinXX_le : ∀ (a b out : List (List Fact)), (joinXX a b out).length ≤ out.length + a.length * b.length
  | [], b, out => by rw [joinXX]; simp
  | x :: r, b, out => by
    rw [joinXX]
    have h1 := joinXX_le r b (joinX x b out)
    have h2 := joinX_le x b out
    rw [List.length_cons, Nat.succ_mul]
    omega
theorem joinLL_le (a b : List (List Fact)) : (joinLL a b).length ≤ a.length * b.length := by
  have := joinXX_le a b []
  simpa [joinLL] using this
theorem joinLL_empty (a : List (List Fact)) : joinLL a [] = [] := List.length_eq_zero_iff.1 (by have := joinLL_le a []; simpa using this)
theorem joinLL_empty' (a : List (List Fact)) : joinLL [] a = [] := List.length_eq_zero_iff.1 (by have := joinLL_le [] a; simpa using this)
/-- the value of the last effect -/
def lastV : List GEffect → Option Int
  | [] => none
  | e :: r => some ((lastV r).getD e.Val)
def lastF (v : Int) : List GEffect → Int → Int
  | [], a => a
  | e :: r, a => lastF v r (if e.Var == v then e.Val else a)
theorem lastF_eq (v : Int) : ∀ (es : List GEffect) (a : Int), lastF v es a = (lastV (es.filter (fun e => e.Var == v))).getD a
  | [], a => rfl
  | e :: r, a => by
    rw [lastF, lastF_eq v r, List.filter_cons]
    cases e.Var == v with
    | true => rw [if_pos rfl, if_pos rfl, lastV]; cases lastV (r.filter fun e => e.Var == v) <;> rfl
    | false => rw [if_neg (by decide), if_neg (by decide)]
abbrev PlainE (es : List GEffect) : Prop := ∀ e ∈ es, e.When = []
def allV (f : Fact) (es : List GEffect) : Bool := es.all fun e => decide (e.Val = f.2)
theorem quiet_plain {vars : List Int} {f : Fact} : ∀ {es : List GEffect} (l : List (List Fact)), PlainE es → quietG vars f es l = some (if allV f es = true then l else [])
  | [], l, _ => rfl
  | e :: r, l, h => by
    have ih := fun l => quiet_plain (vars := vars) (f := f) (es := r) l fun x hx => h x (List.mem_cons_of_mem _ hx)
    rw [quietG]
    unfold allV
    rw [List.all_cons]
    by_cases hv : e.Val = f.2
    · rw [if_pos hv, ih, decide_eq_true hv, Bool.true_and]; rfl
    · rw [if_neg hv, h e (List.mem_cons_self ..), decide_eq_false hv, Bool.false_and, if_neg (by decide)]
      have h1 : silF vars [] = [] := rfl
      have h2 : capO ([] : List (List Fact)) = some [] := rfl
      rw [h1, h2, Option.bind_some, joinLL_empty, h2, Option.bind_some, ih]
      split <;> rfl
theorem cases_plain {vars : List Int} {f : Fact} : ∀ {es : List GEffect}, PlainE es → casesG vars f es = some (if lastV es = some f.2 then [[]] else [])
  | [], _ => rfl
  | e :: r, h => by
    have hr : PlainE r := fun x hx => h x (List.mem_cons_of_mem _ hx)
    rw [casesG, cases_plain hr, Option.bind_some, quiet_plain _ hr, h e (List.mem_cons_self ..)]
    cases r with
    | nil =>
      by_cases hv : e.Val = f.2
      · rw [if_pos hv, show lastV [e] = some f.2 from by rw [← hv]; rfl, if_pos rfl]; rfl
      · rw [if_neg hv, show lastV [e] = some e.Val from rfl, if_neg (show ¬ (some e.Val = some f.2) from fun h => hv (Option.some.inj h))]; rfl
    | cons e2 r2 =>
      have hl : lastV (e :: e2 :: r2) = lastV (e2 :: r2) := by
        show some ((lastV (e2 :: r2)).getD e.Val) = _
        rw [show lastV (e2 :: r2) = some ((lastV r2).getD e2.Val) from rfl]; rfl
      rw [hl]
      by_cases hv : e.Val = f.2
      · rw [if_pos hv]
        by_cases ha : allV f (e2 :: r2) = true
        · have hlast : ∀ (es : List GEffect), es ≠ [] → allV f es = true → lastV es = some f.2 := by
            intro es
            induction es with
            | nil => intro h; exact absurd rfl h
            | cons e3 r3 ih =>
              intro _ h3
              unfold allV at h3
              rw [List.all_cons, Bool.and_eq_true] at h3
              rw [lastV]
              cases r3 with
              | nil => show some e3.Val = _; rw [of_decide_eq_true h3.1]
              | cons e4 r4 => rw [ih (by simp) h3.2]; rfl
          rw [if_pos (hlast _ (by simp) ha), if_pos ha]
          rfl
        · rw [if_neg ha]
          split <;> rfl
      · rw [if_neg hv]
def caseP (f : Fact) (es : List GEffect) : List (List Fact) := (if lastV es = some f.2 then [[]] else []) ++ (if allV f es = true then [[f]] else [])
theorem casesO_plain {vars : List Int} {o : GOp} (h : PlainE o.Effs) (f : Fact) : casesO vars o f = some (caseP f (o.Effs.filter (fun e => e.Var == f.1))) := by
  have hf : PlainE (o.Effs.filter (fun e => e.Var == f.1)) := fun e he => h e (List.mem_filter.1 he).1
  rw [casesO, casesE, cases_plain hf, Option.bind_some, quiet_plain _ hf]
  unfold caseP
  split
  · split
    · rfl
    · rfl
  · split
    · rfl
    · rfl
theorem last_all {f : Fact} : ∀ {es : List GEffect} {x : Int}, lastV es = some x → x ≠ f.2 → allV f es = false
  | e :: r, x, h, hx => by
    unfold allV
    rw [List.all_cons, Bool.and_eq_false_iff]
    cases hr : lastV r with
    | none => rw [lastV, hr] at h; injection h with h; exact .inl (decide_eq_false (by rw [show e.Val = x from h]; exact hx))
    | some y => rw [lastV, hr] at h; injection h with h; exact .inr (last_all hr (by rw [show y = x from h]; exact hx))
theorem last_none {es : List GEffect} (h : lastV es = none) : es = [] := by
  cases es with
  | nil => rfl
  | cons e r => cases h
/-- what the law asks for -/
def setsM (l : List Fact) (M : List (Int × Int)) : List (Int × Int) := l.foldl (fun M f => setM M f.1 f.2) M
def needP (es : List GEffect) : List Fact → List (Int × Int) → Option (List (Int × Int))
  | [], M => some M
  | f :: r, M =>
    if 0 ≤ lastF f.1 es (-1) ∧ lastF f.1 es (-1) ≠ f.2 then none
    else if lastF f.1 es (-1) < 0 then (if (getM M f.1).isSome = true ∧ (getM M f.1).getD 0 ≠ f.2 then none else needP es r (setM M f.1 f.2))
    else needP es r M
structure RelM (M : List (Int × Int)) (b : List Fact) : Prop where
  nd : (M.map Prod.fst).Nodup
  mem : ∀ f, f ∈ M ↔ f ∈ b
structure InvL (vars : List Int) (l : List (List Fact)) (b : List Fact) : Prop where
  prop : PropL vars l
  nd : l.Nodup
  at_ : b ∈ l
  sub : ∀ x ∈ l, ∀ f ∈ b, f ∈ x
def effN (es : List GEffect) (p : List Fact) : Nat := (p.filter fun f => es.any fun e => e.Var == f.1).length
theorem joinO_nil {vars : List Int} {x : List Fact} (hx : propF vars (-1) x = true) : joinO x [] = some x :=
  joinO_is (propF_vF' hx) rfl (propF_vF' hx) fun z => by simp
theorem step_plain {vars : List Int} {f : Fact} (hf : propF vars (-1) [f] = true) {l : List (List Fact)} {b : List Fact} (h : InvL vars l b) : (∀ z, joinO b [f] = some z → InvL vars (joinLL l [[f]]) z) ∧ (joinO b [f] = none → joinLL l [[f]] = []) ∧ InvL vars (joinLL l [[]]) b ∧ InvL vars (joinLL l [[], [f]]) b := by
  have hfl : PropL vars [[f]] := fun x hx => by rw [List.mem_singleton.1 hx]; exact hf
  have h0 : PropL vars [[]] := fun x hx => by rw [List.mem_singleton.1 hx]; rfl
  have h2 : PropL vars [[], [f]] := fun x hx => by
    rcases List.mem_cons.1 hx with rfl | hx
    · rfl
    · rw [List.mem_singleton.1 hx]; exact hf
  have hb := h.prop b h.at_
  have sub2 : ∀ c : List (List Fact), ∀ z ∈ joinLL l c, ∀ u ∈ b, u ∈ z := fun c z hz u hu => by
    obtain ⟨x, hx, y, hy, e⟩ := (joinLL_mem z _ _).1 hz
    exact ((joinO_some e).2 u).2 (.inl (h.sub x hx u hu))
  refine ⟨fun z hz => ⟨joinLL_prop h.prop hfl, joinLL_nodup _ _, (joinLL_mem z _ _).2 ⟨b, h.at_, [f], List.mem_singleton.2 rfl, hz⟩, fun w hw u hu => ?_⟩, fun hn => ?_, ⟨joinLL_prop h.prop h0, joinLL_nodup _ _, (joinLL_mem b _ _).2 ⟨b, h.at_, [], List.mem_singleton.2 rfl, joinO_nil hb⟩, sub2 _⟩,
    ⟨joinLL_prop h.prop h2, joinLL_nodup _ _, (joinLL_mem b _ _).2 ⟨b, h.at_, [], List.mem_cons_self .., joinO_nil hb⟩, sub2 _⟩⟩
  · obtain ⟨x, hx, y, hy, e⟩ := (joinLL_mem w _ _).1 hw
    rw [List.mem_singleton.1 hy] at e
    rcases ((joinO_some hz).2 u).1 hu with hu | hu
    · exact ((joinO_some e).2 u).2 (.inl (h.sub x hx u hu))
    · exact ((joinO_some e).2 u).2 (.inr hu)
  · refine List.eq_nil_iff_forall_not_mem.2 fun w hw => ?_
    obtain ⟨x, hx, y, hy, e⟩ := (joinLL_mem w _ _).1 hw
    rw [List.mem_singleton.1 hy] at e
    obtain ⟨e1, e2⟩ := joinO_some e
    have hc := joinO_none (propF_vF' hb) (propF_vF' hf) hn
    have hw' := asc_compat ((vF_iff' w).1 e1).2
    exact hc fun u hu v hv huv => hw' u ((e2 u).2 ((List.mem_append.1 hu).imp (h.sub x hx u) id)) v ((e2 v).2 ((List.mem_append.1 hv).imp (h.sub x hx v) id)) huv
theorem regG_dead {vars : List Int} {o : GOp} (h : PlainE o.Effs) : ∀ p : List Fact, regG vars o p [] = some []
  | [] => rfl
  | f :: r => by
    have h2 : capO ([] : List (List Fact)) = some [] := rfl
    rw [regG, casesO_plain h, Option.bind_some, joinLL_empty', h2, Option.bind_some]
    exact regG_dead h r
theorem relM_set {M : List (Int × Int)} {b z : List Fact} (h : RelM M b) {f : Fact} (hz : ∀ x, x ∈ z ↔ x ∈ b ∨ x = f) (hne : ∀ x ∈ b, x.1 = f.1 → x = f) : RelM (setM M f.1 f.2) z := by
  refine ⟨(keys_setM h.nd).1, fun x => ?_⟩
  rw [mem_setM x h.nd, hz x, h.mem x]
  constructor
  · rintro (rfl | ⟨hx, _⟩)
    · exact .inr rfl
    · exact .inl hx
  · rintro (hx | rfl)
    · by_cases e : x.1 = f.1
      · exact .inl (hne x hx e)
      · exact .inr ⟨hx, e⟩
    · exact .inl rfl
theorem reg_plain {vars : List Int} {o : GOp} (h : PlainE o.Effs) (hv : ∀ e ∈ o.Effs, 0 ≤ e.Val) : ∀ (p : List Fact) (l : List (List Fact)) (b : List Fact) (M : List (Int × Int)), (∀ f ∈ p, propF vars (-1) [f] = true) → InvL vars l b → RelM M b → l.length * 2 ^ effN o.Effs p ≤ 1024 →
    ∃ l', regG vars o p l = some l' ∧ ((needP o.Effs p M = none ∧ l' = []) ∨ ∃ M' b', needP o.Effs p M = some M' ∧ InvL vars l' b' ∧ RelM M' b')
  | [], l, b, M, _, hi, hr, _ => ⟨l, rfl, .inr ⟨M, b, rfl, hi, hr⟩⟩
  | f :: r, l, b, M, hp, hi, hr, hc => by
    have hf := hp f (List.mem_cons_self ..)
    have hpr : ∀ u ∈ r, propF vars (-1) [u] = true := fun u hu => hp u (List.mem_cons_of_mem _ hu)
    obtain ⟨s1, s2, s3, s4⟩ := step_plain hf hi
    rw [regG, casesO_plain h, Option.bind_some, needP, lastF_eq]
    have hnv : ∀ x, lastV (o.Effs.filter fun e => e.Var == f.1) = some x → 0 ≤ x := by
      have key : ∀ (es : List GEffect), (∀ e ∈ es, 0 ≤ e.Val) → ∀ x, lastV es = some x → 0 ≤ x := by
        intro es
        induction es with
        | nil => intro _ x hx; cases hx
        | cons e r ih =>
          intro hes x hx
          rw [lastV] at hx
          injection hx with hx
          cases hr : lastV r with
          | none => rw [hr] at hx; rw [← hx]; exact hes e (List.mem_cons_self ..)
          | some y => rw [hr] at hx; rw [← hx]; exact ih (fun e he => hes e (List.mem_cons_of_mem _ he)) y hr
      exact key _ fun e he => hv e (List.mem_filter.1 he).1
    have hb := hi.prop b hi.at_
    have hfn : Nonneg [f] := ((vF_iff' _).1 (propF_vF' hf)).1
    cases hl : lastV (o.Effs.filter fun e => e.Var == f.1) with
    | none =>
      have hes := last_none hl
      rw [show caseP f (o.Effs.filter fun e => e.Var == f.1) = [[f]] from by rw [hes]; rfl, Option.getD_none, if_neg (by omega), if_pos (by omega)]
      have hc0 : (joinLL l [[f]]).length ≤ l.length := by have := joinLL_le l [[f]]; simpa using this
      have hcr : (joinLL l [[f]]).length * 2 ^ effN o.Effs r ≤ 1024 := by
        refine Nat.le_trans (Nat.mul_le_mul hc0 (Nat.pow_le_pow_right (by decide) ?_)) hc
        unfold effN
        rw [List.filter_cons]
        split
        · rw [List.length_cons]; omega
        · exact Nat.le_refl _
      have hcl : (joinLL l [[f]]).length ≤ 1024 := Nat.le_trans (Nat.le_mul_of_pos_right _ (Nat.pow_pos (by decide))) hcr
      rw [capO, if_pos hcl, Option.bind_some]
      cases hj : joinO b [f] with
      | none =>
        rw [s2 hj, regG_dead h r]
        refine ⟨[], rfl, .inl ⟨?_, rfl⟩⟩
        rw [if_pos]
        have hcm := joinO_none (propF_vF' hb) (propF_vF' hf) hj
        have hba := ((vF_iff' b).1 (propF_vF' hb)).2
        obtain ⟨y, hy, e1, e2⟩ : ∃ y ∈ b, y.1 = f.1 ∧ y.2 ≠ f.2 := Decidable.byContradiction fun hn => hcm fun u hu v hv huv => by
          have hn' : ∀ y ∈ b, y.1 = f.1 → y.2 = f.2 := fun y hy e => Decidable.byContradiction fun e2 => hn ⟨y, hy, e, e2⟩
          rcases List.mem_append.1 hu with hu | hu <;> rcases List.mem_append.1 hv with hv | hv
          · rw [asc_inj hba hu hv huv]
          · rw [List.mem_singleton.1 hv] at huv ⊢; exact hn' u hu huv
          · rw [List.mem_singleton.1 hu] at huv ⊢; exact (hn' v hv huv.symm).symm
          · rw [List.mem_singleton.1 hu, List.mem_singleton.1 hv]
        have hg : getM M f.1 = some y.2 := (getM_mem hr.nd).2 ((hr.mem _).2 (by rw [← e1]; exact hy))
        rw [hg]
        exact ⟨rfl, e2⟩
      | some z =>
        obtain ⟨z1, z2⟩ := joinO_some hj
        have hza := ((vF_iff' z).1 z1).2
        have hne : ∀ x ∈ b, x.1 = f.1 → x = f := fun x hx e => asc_inj hza ((z2 x).2 (.inl hx)) ((z2 f).2 (.inr (List.mem_singleton.2 rfl))) e
        rw [if_neg]
        · exact reg_plain h hv r _ z _ hpr (s1 z hj) (relM_set hr (fun x => by rw [z2 x, List.mem_singleton]) hne) hcr
        · rintro ⟨q1, q2⟩
          obtain ⟨y, hy⟩ := Option.isSome_iff_exists.1 q1
          rw [hy] at q2
          have hm := (hr.mem _).1 ((getM_mem hr.nd).1 hy)
          have := hne _ hm rfl
          exact q2 (congrArg Prod.snd this)
    | some x =>
      have hx0 := hnv x hl
      rw [Option.getD_some]
      by_cases hx : x = f.2
      · rw [if_neg (fun hh => hh.2 hx), if_neg (by omega)]
        have hcase : ∃ c, caseP f (o.Effs.filter fun e => e.Var == f.1) = c ∧ (c = [[]] ∨ c = [[], [f]]) := by
          refine ⟨_, rfl, ?_⟩
          unfold caseP
          rw [hl, if_pos (by rw [hx])]
          split
          · exact .inr rfl
          · exact .inl rfl
        obtain ⟨c, hcc, hc2⟩ := hcase
        rw [hcc]
        have hclen : c.length ≤ 2 := by rcases hc2 with e | e <;> rw [e] <;> simp
        have hany : (o.Effs.any fun e => e.Var == f.1) = true := by
          cases he : o.Effs.filter fun e => e.Var == f.1 with
          | nil => rw [he] at hl; cases hl
          | cons e es =>
            have : e ∈ o.Effs.filter fun e => e.Var == f.1 := by rw [he]; exact List.mem_cons_self ..
            exact List.any_eq_true.2 ⟨e, (List.mem_filter.1 this).1, (List.mem_filter.1 this).2⟩
        have hN : effN o.Effs (f :: r) = effN o.Effs r + 1 := by
          unfold effN
          rw [List.filter_cons, if_pos hany, List.length_cons]
        have hcr : (joinLL l c).length * 2 ^ effN o.Effs r ≤ 1024 := by
          rw [hN, Nat.pow_succ] at hc
          have h1 := joinLL_le l c
          have h2 : l.length * c.length ≤ l.length * 2 := Nat.mul_le_mul_left _ hclen
          refine Nat.le_trans (Nat.mul_le_mul_right _ (Nat.le_trans h1 h2)) ?_
          rw [Nat.mul_assoc, Nat.mul_comm 2]
          exact hc
        have hcl : (joinLL l c).length ≤ 1024 := Nat.le_trans (Nat.le_mul_of_pos_right _ (Nat.pow_pos (by decide))) hcr
        rw [capO, if_pos hcl, Option.bind_some]
        refine reg_plain h hv r _ b M hpr ?_ hr hcr
        rcases hc2 with e | e <;> rw [e]
        · exact s3
        · exact s4
      · rw [if_pos ⟨hx0, hx⟩, show caseP f (o.Effs.filter fun e => e.Var == f.1) = [] from by unfold caseP; rw [hl, if_neg (by simpa using hx), last_all hl hx]; rfl]
        have h2 : capO ([] : List (List Fact)) = some [] := rfl
        rw [joinLL_empty, h2, Option.bind_some, regG_dead h r]
        exact ⟨[], rfl, .inl ⟨rfl, rfl⟩⟩
theorem effN_le {es : List GEffect} {p : List Fact} (hp : Asc p) : effN es p ≤ es.length := by
  have h1 : ((p.filter fun f => es.any fun e => e.Var == f.1).map Prod.fst).Nodup := by
    have : (p.map Prod.fst).Nodup := List.pairwise_map.2 (hp.imp fun hab => by omega)
    exact (List.filter_sublist.map _).nodup this
  have := nodupL _ (es.map GEffect.Var) h1 fun x hx => by
    obtain ⟨f, hf, rfl⟩ := List.mem_map.1 hx
    obtain ⟨e, he, e2⟩ := List.any_eq_true.1 (List.mem_filter.1 hf).2
    exact List.mem_map.2 ⟨e, he, by simpa using e2⟩
  rw [List.length_map, List.length_map] at this
  exact this
theorem min_inv {vars : List Int} {l : List (List Fact)} {b : List Fact} (h : InvL vars l b) : sortLL (minF l) = [b] := by
  have hasc : ∀ x ∈ l, Asc x := fun x hx => ((vF_iff' x).1 (propF_vF' (h.prop x hx))).2
  have hm : ∀ x, x ∈ minF l ↔ x = b := fun x => by
    unfold minF keepF
    rw [List.mem_filter, List.all_eq_true]
    constructor
    · rintro ⟨hx, hk⟩
      have := hk b h.at_
      rw [Bool.not_eq_true', Bool.and_eq_false_iff] at this
      rcases this with e | e
      · have h2 : subF b x = true := subF_iff.2 (h.sub x hx)
        rw [h2] at e; cases e
      · exact (Decidable.not_not.1 (of_decide_eq_false e)).symm
    · rintro rfl
      refine ⟨h.at_, fun y hy => ?_⟩
      rw [Bool.not_eq_true', Bool.and_eq_false_iff]
      by_cases hs : subF y x = true
      · refine .inr (decide_eq_false fun hne => hne ?_)
        exact asc_unique y x (hasc y hy) (hasc x h.at_) fun z => ⟨subF_iff.1 hs z, h.sub y hy z⟩
      · exact .inl (by simpa using hs)
  have hnd : (minF l).Nodup := List.filter_sublist.nodup h.nd
  have : minF l = [b] := by
    cases hl : minF l with
    | nil => have := (hm b).2 rfl; rw [hl] at this; cases this
    | cons x r =>
      have hx := (hm x).1 (by rw [hl]; exact List.mem_cons_self ..)
      subst hx
      cases r with
      | nil => rfl
      | cons y r =>
        have hy := (hm y).1 (by rw [hl]; exact List.mem_cons_of_mem _ (List.mem_cons_self ..))
        subst hy
        rw [hl] at hnd
        simp at hnd
  rw [this]
  have h1 := sortLL_length [b]
  have h2 := (sortLL_mem b [b]).2 (List.mem_singleton.2 rfl)
  cases hs : sortLL [b] with
  | nil => rw [hs] at h2; cases h2
  | cons x r =>
    rw [hs] at h1 h2
    cases r with
    | nil => rw [List.mem_singleton.1 h2]
    | cons y r => simp at h1
theorem setsM_rel : ∀ (l : List Fact) (M : List (Int × Int)) (b : List Fact), RelM M b → Asc l → (∀ f ∈ l, ∀ x ∈ b, x.1 ≠ f.1) → RelM (setsM l M) (b ++ l)
  | [], M, b, h, _, _ => by rw [List.append_nil]; exact h
  | f :: r, M, b, h, ha, hd => by
    rw [Asc, List.pairwise_cons] at ha
    have h1 := relM_set (z := b ++ [f]) h (f := f) (fun x => by simp) fun x hx e => absurd e (hd f (List.mem_cons_self ..) x hx)
    have := setsM_rel r (setM M f.1 f.2) (b ++ [f]) h1 ha.2 fun u hu x hx => by
      rcases List.mem_append.1 hx with hx | hx
      · exact hd u (List.mem_cons_of_mem _ hu) x hx
      · rw [List.mem_singleton.1 hx]
        have := ha.1 u hu
        omega
    rw [List.append_assoc] at this
    exact this
/-- the regression of an operator without conditions -/
theorem regO_plain {t : GTask} (hgood : goodF t = true) {o : GOp} (ho : o ∈ t.Ops) (h : PlainE o.Effs) (hv : ∀ e ∈ o.Effs, 0 ≤ e.Val) (h8 : o.Effs.length ≤ 8) {p : List Fact} (hp : propF t.Vars (-1) p = true) :
    ∃ l, regO t.Vars o p = some l ∧ ((needP o.Effs p (setsM o.Pre []) = none ∧ l = []) ∨ ∃ M b, needP o.Effs p (setsM o.Pre []) = some M ∧ l = [b] ∧ RelM M b ∧ M.length = b.length ∧ propF t.Vars (-1) b = true) := by
  have oo := good_op hgood ho
  have hpa := ((vF_iff' _).1 (propF_vF' oo.pre)).2
  have hasc := ((vF_iff' _).1 (propF_vF' hp)).2
  have hrel : RelM (setsM o.Pre []) o.Pre := by
    have := setsM_rel o.Pre [] [] ⟨List.nodup_nil, fun f => by simp⟩ hpa fun f _ x hx => by cases hx
    rwa [List.nil_append] at this
  have hinv : InvL t.Vars [o.Pre] o.Pre := ⟨fun x hx => by rw [List.mem_singleton.1 hx]; exact oo.pre, by simp, List.mem_singleton.2 rfl, fun x hx f hf => by rw [List.mem_singleton.1 hx]; exact hf⟩
  have hb : [o.Pre].length * 2 ^ effN o.Effs p ≤ 1024 := by
    have h1 := effN_le (es := o.Effs) hasc
    have h2 : 2 ^ effN o.Effs p ≤ 2 ^ 8 := Nat.pow_le_pow_right (by decide) (by omega)
    rw [List.length_singleton, Nat.one_mul]
    exact Nat.le_trans h2 (by decide)
  obtain ⟨l', e1, e2⟩ := reg_plain h hv p [o.Pre] o.Pre _ (fun f hf => propF_one hp hf) hinv hrel hb
  rw [regO, e1, Option.map_some]
  refine ⟨_, rfl, ?_⟩
  rcases e2 with ⟨e3, rfl⟩ | ⟨M, b, e3, e4, e5⟩
  · exact .inl ⟨e3, List.length_eq_zero_iff.1 (by rw [sortLL_length]; rfl)⟩
  · refine .inr ⟨M, b, e3, min_inv e4, e5, Nat.le_antisymm (nodupL _ _ (keys_nodup e5.nd) fun x hx => (e5.mem x).1 hx) (nodupL _ _ (asc_nodup ((vF_iff' b).1 (propF_vF' (e4.prop b e4.at_))).2) fun x hx => (e5.mem x).2 hx), e4.prop b e4.at_⟩
end Go.Proofs.Yteapjpgabdegnaa.Am
/- Models printed by my decompiler, and the proofs that the code computes them. -/
namespace Go.Proofs.Yteapjpgabdegnaa.Am
open Go.RowKit
theorem zb_XDBb {P : Prop} (h : P := by repeat (first | exact BWL.nil | exact bwll_nil | exact bw_c | exact BW.sl | exact BW.nil | exact bwll_same rfl FrI.h | refine BWL.cons ?_ ?_ | refine bwll_cons ?_ ?_ | (refine bw_own3 rfl rfl rfl FrI.h ?_ ?_ ?_) | exact BW.fr FrV.h | exact BW.fr (by assumption) | refine bw_agg ?_ | refine bw_clo ?_ | refine bw_ptr rfl rfl rfl ?_ | (refine bw_own rfl rfl rfl ?_ FrI.h ?_ ?_) | assumption | omega | rfl | (rw [List.length_map, ← List.length_append]; assumption) | (refine bwll_same ?_ FrI.h; (simp [cGTask, cI, cF, cGOp, cGEffect, cL_cF] <;> fail)) | (rw [List.map_set]; refine bwll_set (by first | rfl | omega | simp) ?_ ?_) | refine bwll_set (by first | rfl | omega | simp) ?_ ?_ | (rw [List.map_replicate]; refine bwll_rep ?_) | refine bwll_rep ?_ | (rw [List.map_append]; refine bwll_append ?_ ?_) | refine bwll_append ?_ ?_ | (simp [cGTask, cI, cF, cGOp, cGEffect, cL_cF, take_len_map] <;> fail) | (rw [List.drop_zero, List.take_of_length_le] <;> first | rfl | (simp [cGTask, cI, cF, cGOp, cGEffect, cL_cF] <;> fail)) | (simp; omega))) : P := h
theorem ci_XDBb {p K : Prop} (k : K) (h : p := by first | rfl | exact ⟨rfl, rfl⟩ | exact BW.fr FrV.h | (refine BW.fr ?_; assumption) | (refine ⟨rfl, ?_⟩; (simp [cGTask, cI, cF, cGOp, cGEffect, cL_cF, take_len_map]; done)) | (refine RowK.same ?_ FrI.h; first | rfl | (simp [cGTask, cI, cF, cGOp, cGEffect, cL_cF, take_len_map]; done)) | (refine row_part1 ?_; (exact zb_XDBb); done) | ((exact zb_XDBb); done) | (simp [cGTask, cI, cF, cGOp, cGEffect, cL_cF, take_len_map]; done)) : p ∧ K := ⟨h, k⟩
theorem ca_XDBb {P : Prop} (h : P := by repeat (first | exact True.intro | refine ci_XDBb ?_)) : P := h
theorem pr_XDBb {p K : Prop} (k : K) (h : p := by first | assumption | exact Int.natCast_nonneg _ | exact Nat.le_refl _ | exact Nat.zero_le _ | omega | (simp; done) | (simp; omega)) : p ∧ K := ⟨h, k⟩
theorem dr_XDBb {b : Bool} {p K : Prop} (k : K) (h : b = true → p := by intro h; first | (cases h; done) | exact ⟨by kernel_rfl, by kernel_rfl⟩) : (b = true → p) ∧ K := ⟨h, k⟩
theorem cl_XDBb {C : Cx} {n : Nat} {o : Oper} {τ : Nat → AV} {η : Nat → Ent} {f : FuncId} {os : Array Operand} {ats : Array TypeId} {r : AV} {args : List AV} {K : Foot → Prop} (ho : o.op = .call ⟨.value (.func f), os, ats⟩) (hc : ACall C f args r) (k : K ⟨r, [], []⟩)
    (hd : InB n o.dst := by exact Nat.le_of_ble_eq_true rfl) (hargs : os.toList.map (evA τ) = args := by first | rfl | (simp [cGTask, cI, cF, cGOp, cGEffect, cL_cF]; done)) (hfr : frs args := by repeat (first | exact trivial | exact fr1_eA _ | exact fr0_eA _ | exact fr1_fr (by assumption) | exact FrV.h | refine And.intro ?_ ?_)) (hr : fr1 r := by repeat (first | exact trivial | exact fr1_eA _ | exact fr0_eA _ | exact fr1_fr (by assumption) | exact FrV.h | refine And.intro ?_ ?_)) : ∃ f : Foot, LF C n o τ η f ∧ K f := ⟨_, lf_call ho hd hargs hc hfr hr, k⟩
theorem clb_XDBb {C : Cx} {n : Nat} {o : Oper} {τ : Nat → AV} {η : Nat → Ent} {f : FuncId} {os : Array Operand} {ats : Array TypeId} {r : AV} {xs ys : List AV} {K : Foot → Prop} (bs : List Nat) (ho : o.op = .call ⟨.value (.func f), os, ats⟩) (hargs : os.toList.map (evA τ) = xs) (hc : ACall C f ys r) (k : K ⟨r, [], bs⟩)
    (hd : InB n o.dst := by exact Nat.le_of_ble_eq_true rfl) (hb : BWL η (dropB η bs) xs ys := by exact zb_XDBb) (hr : scal r := by repeat (first | exact trivial | exact scal0_eA _ | exact scal_eA _ | refine And.intro ?_ ?_)) : ∃ f : Foot, LF C n o τ η f ∧ K f := ⟨_, lf_callB bs ho hd hargs hb hc hr, k⟩
theorem clf_XDBb {C : Cx} {n : Nat} {o : Oper} {τ : Nat → AV} {η : Nat → Ent} {f : FuncId} {os : Array Operand} {ats : Array TypeId} {r : AV} {xs ys : List AV} {K : Foot → Prop} (us : List (Nat × Ent)) (ho : o.op = .call ⟨.value (.func f), os, ats⟩) (hargs : os.toList.map (evA τ) = xs) (hc : ACall C f ys r) (k : K ⟨r, us, []⟩)
    (hus : allUs η us := by repeat (first | exact trivial | refine And.intro rfl ?_)) (hul : ltUs n us := by repeat (first | exact trivial | refine And.intro (Nat.le_of_ble_eq_true rfl) ?_)) (hd : InB n o.dst := by exact Nat.le_of_ble_eq_true rfl) (hb : BWL η (dropB η (us.map (·.1))) xs ys := by exact zb_XDBb) (hr : fr1 r := by repeat (first | exact trivial | exact fr1_eA _ | exact fr0_eA _ | exact fr1_fr (by assumption) | exact FrV.h | refine And.intro ?_ ?_)) : ∃ f : Foot, LF C n o τ η f ∧ K f := ⟨_, lf_callF us (allUs_at hus) (ltUs_at hul) ho hd hargs hb hc hr, k⟩
def M_l26_example : Option (GTask) :=
  some ({ Vars := [2, 3], Init := [0, 0], Goal := [], Ops := [{ Name := (⟨#[]⟩ : ByteArray), Cost := 0, Pre := [(0, 0)], Effs := [{ When := [], Var := 0, Val := 1 : GEffect }] : GOp }, { Name := (⟨#[]⟩ : ByteArray), Cost := 0, Pre := [], Effs := [{ When := [(0, 1)], Var := 1, Val := 2 : GEffect }] : GOp }] : GTask })
set_option maxHeartbeats 16000000 in
set_option maxRecDepth 100000 in
theorem A_l26_example {r1 : GTask} (h : M_l26_example = some r1) : ACall cx 32 [] (.agg [.sl 1 (r1.Vars.map cI), .sl 1 (r1.Init.map cI), .sl 2 (r1.Goal.map cF), .sl 4 (r1.Ops.map cGOp)]) := by
  refine aOf Try.func32 rfl (by decide) rfl (Nat.le_of_ble_eq_true rfl) ?_; intro _; unfold M_l26_example at h; refine aSq ?_; refine aRg ?_; intro _; refine dr_XDBb ?_; refine aSq ?_; refine aRg ?_; intro _; refine dr_XDBb ?_; refine aRt ?_; intro _; obtain rfl := inj1 h; exact ca_XDBb
def M_l26_awake (g : Nat) : Option (Bool) :=
  ob1 (M_l26_example) (fun z1 =>
   ob2 (M_g_Regress g z1 0 [(0, 1), (1, 2)]) (fun z2 z3 =>
    ob1 (M_l26_example) (fun z4 =>
     ob2 (M_g_Regress g z4 1 [(1, 2)]) (fun z5 z6 =>
      erM z3
       (erM z6
         (sel (((z2.map cL_cF).length : Int) == 1)
           (ix z2 0 (fun y9 =>
             ob1 (M_b_Facts y9 [(0, 0), (1, 2)]) (fun z10 =>
              sel z10
               (sel (((z5.map cL_cF).length : Int) == 2)
                 (ix z5 0 (fun y11 =>
                   ob1 (M_b_Facts y11 [(0, 1)]) (fun z12 =>
                    some z12)))
                 (some false))
               (some false))))
           (some false))
         (fun _ => some false))
       (fun _ => some false)))))
set_option maxHeartbeats 16000000 in
set_option maxRecDepth 100000 in
theorem A_l26_awake (g : Nat) {r1 : Bool} (h : M_l26_awake g = some r1) : ACall cx 14 [] (.c (.bool r1)) := by
  refine aOf Try.func14 rfl (by decide) rfl (Nat.le_of_ble_eq_true rfl) ?_; intro _; unfold M_l26_awake at h; refine aSq ?_; refine aRg ?_; intro _; refine dr_XDBb ?_; refine aSq ?_; refine aRg ?_; intro _; obtain ⟨z1, u1, h⟩ := ob1_ok h; refine cl_XDBb rfl (A_l26_example u1) ?_; intro _; obtain ⟨z2, z3, u2, h⟩ := ob2_ok h; refine clf_XDBb [(9, ⟨2, none⟩)] rfl rfl (A_g_Regress g z1 0 [(0, 1), (1, 2)] u2) ?_; intro _; refine dr_XDBb ?_; refine aSq ?_; refine aRg ?_; intro _; obtain ⟨z4, u3, h⟩ := ob1_ok h; refine cl_XDBb rfl (A_l26_example u3) ?_; intro _; obtain ⟨z5, z6, u4, h⟩ := ob2_ok h; refine clf_XDBb [(16, ⟨2, none⟩)] rfl rfl (A_g_Regress g z4 1 [(1, 2)] u4) ?_; intro _; refine dr_XDBb ?_; refine aSq ?_; rcases z3 with _ | e7
  · replace h := erM_nil h; rcases z6 with _ | e8
    · replace h := erM_nil h; refine aRg ?_; intro _; refine litT ?_; intro _; refine litT ?_; intro _; refine spl h (fun c5 h => ?_) (fun c5 h => ?_)
      · intro _; obtain ⟨y9, w6, q7, h⟩ := ix_ok h; refine Exists.intro (cL_cF y9) (And.intro (map_at' w6) ?_); intro _; obtain ⟨z10, u8, h⟩ := ob1_ok h; refine clb_XDBb [37] rfl rfl (A_b_Facts y9 [(0, 0), (1, 2)] u8) ?_; intro _; refine spl h (fun c9 h => ?_) (fun c9 h => ?_)
        · intro _; refine spl h (fun c10 h => ?_) (fun c10 h => ?_)
          · intro _; obtain ⟨y11, w11, q12, h⟩ := ix_ok h; refine Exists.intro (cL_cF y11) (And.intro (map_at' w11) ?_); intro _; obtain ⟨z12, u13, h⟩ := ob1_ok h; refine clb_XDBb [50] rfl rfl (A_b_Facts y11 [(0, 1)] u13) ?_; intro _; refine pr_XDBb ?_; refine pr_XDBb ?_; refine dr_XDBb ?_; refine aRt ?_; intro _; obtain rfl := inj1 h; exact ca_XDBb
          · intro _; refine pr_XDBb ?_; refine dr_XDBb ?_; refine aRt ?_; intro _; obtain rfl := inj1 h; exact ca_XDBb
        · intro _; refine pr_XDBb ?_; refine dr_XDBb ?_; refine aRt ?_; intro _; obtain rfl := inj1 h; exact ca_XDBb
      · intro _; refine dr_XDBb ?_; refine aRt ?_; intro _; obtain rfl := inj1 h; exact ca_XDBb
    · replace h := erM_no h; refine aRg ?_; intro _; refine litT ?_; intro _; refine litF ?_; intro _; refine dr_XDBb ?_; refine aRt ?_; intro _; obtain rfl := inj1 h; exact ca_XDBb
  · replace h := erM_no h; refine aRg ?_; intro _; refine litF ?_; intro _; refine dr_XDBb ?_; refine aRt ?_; intro _; obtain rfl := inj1 h; exact ca_XDBb
end Go.Proofs.Yteapjpgabdegnaa.Am
/- Range loops of the models as recursions. -/
namespace Go.Proofs.Yteapjpgabdegnaa.Am
end Go.Proofs.Yteapjpgabdegnaa.Am
/- Plain law: the document's example of chapter 26. -/
namespace Go.Proofs.Yteapjpgabdegnaa.Am
open Go.RowKit
def ex26a : GOp := { Name := (⟨#[]⟩ : ByteArray), Cost := 0, Pre := [(0, 0)], Effs := [{ When := [], Var := 0, Val := 1 : GEffect }] }
def ex26b : GOp := { Name := (⟨#[]⟩ : ByteArray), Cost := 0, Pre := [], Effs := [{ When := [(0, 1)], Var := 1, Val := 2 : GEffect }] }
def ex26 : GTask := { Vars := [2, 3], Init := [0, 0], Goal := [], Ops := [ex26a, ex26b] }
theorem ex26_good : goodF ex26 = true := by rfl
theorem ex26_sh : ShT ex26 := by
  refine ⟨by decide, by decide, by decide, by decide, fun o ho => ?_⟩
  rcases List.mem_cons.1 ho with rfl | ho
  · exact ⟨by decide, by decide, by decide, fun e he => by rw [List.mem_singleton.1 he]; decide⟩
  · rw [List.mem_singleton.1 ho]
    exact ⟨by decide, by decide, by decide, fun e he => by rw [List.mem_singleton.1 he]; decide⟩
theorem jA : joinO [(0, 0)] [] = some [(0, 0)] := joinO_is rfl rfl rfl (by simp)
theorem jB : joinO [(0, 0)] [(0, 1)] = none := joinO_not (x := (0, 0)) (y := (0, 1)) (by simp) (by simp) rfl (by decide)
theorem jC : joinO [(0, 0)] [(1, 2)] = some [(0, 0), (1, 2)] := joinO_is rfl rfl rfl (by simp)
theorem jD : joinO [] [(0, 1)] = some [(0, 1)] := joinO_is rfl rfl rfl (by simp)
theorem jE : joinO [] [(1, 2)] = some [(1, 2)] := joinO_is rfl rfl rfl (by simp)
theorem sortLL_of {l : List (List Fact)} (h : SortedL l) : sortLL l = l := by
  have hn : l.Nodup := h.imp fun {a b} hab e => by rw [e, cmpLF_zero.2 rfl] at hab; omega
  exact sortedL_unique _ _ (sortLL_sorted hn) h fun x => sortLL_mem x l
theorem ex26_1 : regO [2, 3] ex26a [(0, 1), (1, 2)] = some [[(0, 0), (1, 2)]] := by
  have e1 : regG [2, 3] ex26a [(0, 1), (1, 2)] [[(0, 0)]] = some [[(0, 0), (1, 2)]] := by
    simp [regG, casesO, casesE, casesG, quietG, ex26a, capO, joinLL, joinXX, joinX, jA, jB, jC, addN]
  rw [regO, show ex26a.Pre = [(0, 0)] from rfl, e1]
  show some (sortLL [[(0, 0), (1, 2)]]) = _
  rw [sortLL_of (List.pairwise_singleton ..)]
theorem ex26_2 : regO [2, 3] ex26b [(1, 2)] = some [[(0, 1)], [(1, 2)]] := by
  have e1 : regG [2, 3] ex26b [(1, 2)] [[]] = some [[(0, 1)], [(1, 2)]] := by
    simp [regG, casesO, casesE, casesG, quietG, ex26b, capO, joinLL, joinXX, joinX, jD, jE, addN]
  rw [regO, show ex26b.Pre = [] from rfl, e1]
  show some (sortLL [[(0, 1)], [(1, 2)]]) = _
  rw [sortLL_of (List.pairwise_cons.2 ⟨fun y hy => by rw [List.mem_singleton.1 hy]; decide, List.pairwise_singleton ..⟩)]
theorem awake_eq (g : Nat) (hg : 70 ≤ g) : M_l26_awake g = some true := by
  have h1 := regress_eq ex26 ex26_sh ex26_good [(0, 1), (1, 2)] rfl g hg 0 ex26a (by decide) rfl
  have h2 := regress_eq ex26 ex26_sh ex26_good [(1, 2)] rfl g hg 1 ex26b (by decide) rfl
  rw [show ex26.Vars = [2, 3] from rfl] at h1 h2
  rw [ex26_1] at h1
  rw [ex26_2] at h2
  have e : M_l26_example = some ex26 := rfl
  rw [M_l26_awake, e, ob1_some, h1]
  show ob2 (M_g_Regress g ex26 1 [(1, 2)]) _ = _
  rw [h2]
  have f1 := bfacts_eq [(0, 0), (1, 2)] [(0, 0), (1, 2)] (by decide)
  have f2 := bfacts_eq [(0, 1)] [(0, 1)] (by decide)
  show ob1 (M_b_Facts [(0, 0), (1, 2)] [(0, 0), (1, 2)]) _ = _
  rw [f1]
  show ob1 (M_b_Facts [(0, 1)] [(0, 1)]) _ = _
  rw [f2]
  rfl
end Go.Proofs.Yteapjpgabdegnaa.Am
/- A call that is lent own memory and leaves it as it is: it only reads. -/
namespace Go.Proofs.Yteapjpgabdegnaa.Am
theorem cons_eq {α : Type} {a b : α} {l m : List α} (h : a = b) (h2 : l = m) : a :: l = b :: m := by rw [h, h2]
theorem sl_dt {α : Type} {e : AV} {k m n : Nat} {f : α → List AV} {l : List α} (h : e = AV.sl k (List.drop m (List.take n (List.map f l)))) : e = AV.sl k (List.map f (List.drop m (List.take n l))) := h.trans (by rw [List.map_drop, List.map_take])
end Go.Proofs.Yteapjpgabdegnaa.Am
/- An abstract machine: maps that the call has made: look up, store, length. -/
namespace Go.Proofs.Yteapjpgabdegnaa.Am
open Go.RowKit Go.MapKept

/-- what is asked of the keys -/
structure KeyA (P : Program) (k : TypeId) (K : Value → Prop) : Prop where
  check : ∀ (w : World) (em : Bool) (v : Value), K v → (Instr.checkKey em 10000 k v).run P w = .ok () w
  find : ∀ (w : World) (x : Value), K x → ∀ es : List MapEntry, (∀ e ∈ es, K e.key) →
    ((Instr.findKey k x es).run P w = .ok none w ∧ ∀ e ∈ es, e.key ≠ x) ∨ ∃ j e, (Instr.findKey k x es).run P w = .ok (some (j, e.val)) w ∧ es[j]? = some e ∧ e.key = x
  stays : ∀ (w : World) (v : Value), K v → (Instr.keyThatStays v v).run P w = .ok v w
theorem keyA_plain {P : Program} {k : TypeId} {d : TypeDesc} (hk : P.underlying k = some d) : KeyA P k (IsKey d) where
  check w em v h := MapKept.run_checkKey hk h em 9999
  find w x hx es hes := by
    rcases findNow_spec hx es 0 hes with ⟨h1, h2⟩ | ⟨j, e0, h1, h2, h3⟩
    · exact .inl ⟨run_findKey hk h1, h2⟩
    · exact .inr ⟨j, e0, by simpa using run_findKey hk h1, h2, h3⟩
  stays w v h := run_keyThatStays h

/-- the entries as the machine has them -/
def mE {κ ν : Type} (ek : κ → Value) (ev : ν → AV) (M : List (κ × ν)) : List (List AV) := M.map fun p => [.c (ek p.1), ev p.2]
def mB {κ ν : Type} (ek : κ → Value) (ev : ν → AV) (M : List (κ × ν)) : Blk := ⟨1000000, 2, true, mE ek ev M⟩

theorem flatE_at : ∀ (es : List MapEntry) (k : Nat) (e : MapEntry), es[k]? = some e → (flatE es)[k * 2]? = some e.key ∧ (flatE es)[k * 2 + 1]? = some e.val
  | [], k, e, h => by simp at h
  | x :: r, 0, e, h => by simp at h; subst h; exact ⟨rfl, rfl⟩
  | x :: r, k + 1, e, h => by
    have := flatE_at r k e (by simpa using h)
    rw [show (k + 1) * 2 = k * 2 + 1 + 1 from by omega]
    exact this
theorem flatE_len (es : List MapEntry) : (flatE es).length = es.length * 2 := by
  induction es with
  | nil => rfl
  | cons x r ih => show (x.key :: x.val :: flatE r).length = _; simp [ih]; omega

section
variable {C : Cx} {n : Nat} {w0 : World} {X : XX} {τ : Nat → AV} {η : Nat → Ent} {m : MM} {a : Act} {w : World} {κ ν : Type} {ek : κ → Value} {ev : ν → AV} {M : List (κ × ν)}
/-- a map's block, read -/
theorem Rep.mapAt (h : Rep C n w0 X τ η m a w) {i ver : Nat} (hi : η i = ⟨ver, some (mB ek ev M)⟩) {v : Value} (hv : RV w (shp η) m (.mp i ver) v) :
    ∃ b es clock, v = .map (some b) ∧ m i = some b ∧ w.heap[b]? = some (.map es clock) ∧ es.toList.Pairwise (fun x y => x.key ≠ y.key) ∧ es.size = M.length ∧
      ∀ (j : Nat) (p : κ × ν), M[j]? = some p → ∃ e, es[j]? = some e ∧ e.key = ek p.1 ∧ RV w (shp η) m (ev p.2) e.val := by
  obtain ⟨b, e1, rfl⟩ := rv_mp hv hi
  have hok := h.mem.ok i _ (by rw [hi])
  rw [e1] at hok
  obtain ⟨arr, a1, a2, a3⟩ := hok
  obtain ⟨es, c, h1, h2, h3, _, h5⟩ := a1.2 rfl
  have hl : es.size = M.length := by rw [← h3]; simp [mB, mE]
  refine ⟨b, es, c, rfl, e1, h1, h5, hl, fun j p hp => ?_⟩
  have hlt : j < es.size := by rw [hl]; exact (List.getElem?_eq_some_iff.1 hp).1
  have hej := Array.getElem?_eq_getElem hlt
  refine ⟨es[j], hej, ?_⟩
  obtain ⟨f1, f2⟩ := flatE_at es.toList j es[j] (by simp)
  have hel : (mB ek ev M).els[j]? = some [.c (ek p.1), ev p.2] := by simp [mB, mE, hp]
  obtain ⟨_, q⟩ := a3 j _ hel
  obtain ⟨u, u1, _, u3⟩ := q 0 (.c (ek p.1)) rfl
  obtain ⟨u', u1', _, u3'⟩ := q 1 (ev p.2) rfl
  subst h2
  have hk : (mB ek ev M).sz = 2 := rfl
  rw [hk] at u1 u1'
  simp only [Nat.add_zero, List.getElem?_toArray] at u1 u1'
  rw [f1] at u1
  rw [f2] at u1'
  injection u1 with u1
  injection u1' with u1'
  rw [u1, u1']
  exact ⟨rv_c u3, u3'⟩
/-- what a look-up finds -/
theorem map_find [DecidableEq κ] {K : Value → Prop} {k : TypeId} (hK : KeyA C.P k K) (hinj : ∀ x y : κ, ek x = ek y → x = y) (hKe : ∀ x : κ, K (ek x)) {es : Array MapEntry} (hpw : es.toList.Pairwise (fun x y => x.key ≠ y.key)) (hl : es.size = M.length)
    (hrd : ∀ (j : Nat) (p : κ × ν), M[j]? = some p → ∃ e, es[j]? = some e ∧ e.key = ek p.1 ∧ RV w (shp η) m (ev p.2) e.val) (x : κ) :
    ((Instr.findKey k (ek x) es.toList).run C.P w = .ok none w ∧ getM M x = none ∧ (∀ p ∈ M, p.1 ≠ x) ∧ ∀ e ∈ es.toList, e.key ≠ ek x) ∨
      ∃ j e u, (Instr.findKey k (ek x) es.toList).run C.P w = .ok (some (j, e.val)) w ∧ es[j]? = some e ∧ e.key = ek x ∧ M[j]? = some (x, u) ∧ RV w (shp η) m (ev u) e.val ∧ getM M x = some u ∧ ∀ i, i < j → ∀ p, M[i]? = some p → p.1 ≠ x := by
  have hkeys : ∀ (j : Nat) (e : MapEntry), es[j]? = some e → ∃ p, M[j]? = some p ∧ e.key = ek p.1 ∧ RV w (shp η) m (ev p.2) e.val := fun j e he => by
    have hlt : j < M.length := by rw [← hl]; exact (Array.getElem?_eq_some_iff.1 he).1
    obtain ⟨e', g1, g2, g3⟩ := hrd j _ (List.getElem?_eq_getElem hlt)
    rw [he] at g1
    injection g1 with g1
    subst g1
    exact ⟨_, List.getElem?_eq_getElem hlt, g2, g3⟩
  have hall : ∀ e ∈ es.toList, K e.key := fun e he => by
    obtain ⟨j, hj⟩ := List.getElem?_of_mem he
    obtain ⟨p, _, q, _⟩ := hkeys j e (by simpa using hj)
    rw [q]
    exact hKe _
  rcases hK.find w (ek x) (hKe x) es.toList hall with ⟨h1, h2⟩ | ⟨j, e, h1, h2, h3⟩
  · have hne : ∀ p ∈ M, p.1 ≠ x := fun p hp e => by
      obtain ⟨j, hj⟩ := List.getElem?_of_mem hp
      obtain ⟨e', g1, g2, _⟩ := hrd j p hj
      exact h2 e' (List.mem_of_getElem? (by simpa using g1)) (by rw [g2, e])
    exact .inl ⟨h1, getM_none hne, hne, h2⟩
  · have h2' : es[j]? = some e := by simpa using h2
    obtain ⟨⟨x', u⟩, g1, g2, g3⟩ := hkeys j e h2'
    have := hinj x' x (by rw [← g2, h3])
    subst this
    have hfirst : ∀ i, i < j → ∀ p, M[i]? = some p → p.1 ≠ x' := fun i hij p hp e0 => by
      obtain ⟨e', q1, q2, _⟩ := hrd i p hp
      have hi' : es.toList[i]? = some e' := by simpa using q1
      have := List.pairwise_iff_getElem.1 hpw i j (List.getElem?_eq_some_iff.1 hi').1 (List.getElem?_eq_some_iff.1 h2).1 hij
      rw [(List.getElem?_eq_some_iff.1 hi').2, (List.getElem?_eq_some_iff.1 h2).2, q2, h3, e0] at this
      exact this rfl
    exact .inr ⟨j, e, u, h1, h2', h3, g1, g3, getM_at g1 hfirst, hfirst⟩
end

section
variable {C : Cx} {n : Nat} {o : Oper} {τ : Nat → AV} {η : Nat → Ent} {κ ν : Type} [DecidableEq κ] {ek : κ → Value} {ev : ν → AV} {M : List (κ × ν)} {t k e : TypeId} {K : Value → Prop}
/-- v, ok := m[x] -/
theorem lf_mapok {x y : Operand} {i ver : Nat} {q : κ} {te : TI} (z : ν) (hK : KeyA C.P k K) (hinj : ∀ x y : κ, ek x = ek y → x = y) (hKe : ∀ x : κ, K (ek x))
    (ho : o.op = .lookup t x y true) (hd : InB n o.dst) (hx : evA τ x = .mp i ver) (hi : η i = ⟨ver, some (mB ek ev M)⟩) (hy : evA τ y = .c (ek q)) (ht : C.P.underlying t = some (.map k e)) (hte : TyOk C.P e te) (hz : ∀ w vs m, RV w vs m (ev z) te.zero) :
    LF C n o τ η ⟨.tup [ev ((getM M q).getD z), .c (.bool (getM M q).isSome)], [], [i]⟩ := by
  refine lf_pure hd (fun τ' η' g1 g2 => ?_)
  intro w0 X mm a w h
  have hi' : η' i = ⟨ver, some (mB ek ev M)⟩ := (g2 i (List.mem_singleton.2 rfl)).trans hi
  have e1 := h.ev x
  have e2 := h.ev y
  rw [g1 x (by simp [ho, Op.operands]), hx] at e1
  rw [g1 y (by simp [ho, Op.operands]), hy] at e2
  obtain ⟨b, es, clock, hu, hb, hh, hpw, hl, hrd⟩ := h.mapAt hi' e1
  have hy' := rv_c e2
  have hchk := hK.check w es.isEmpty (ek q) (hKe q)
  rcases map_find (C := C) hK hinj hKe hpw hl hrd q with ⟨h1, h2, _, _⟩ | ⟨j, e', u, h1, _, _, _, h5, h6, _⟩
  · refine ⟨.tuple #[te.zero, .bool false], ?_, ?_⟩
    · simp [execOp, ho, hu, hy', Instr.lookup, run_underlying ht, MapKept.run_getObj_map hh, hchk, h1, hte.zeroV, Result.andThen]
    · rw [h2]
      refine .tup rfl (fun j y v hj hv => ?_)
      match j with
      | 0 => simp at hj hv; subst hj hv; exact hz _ _ _
      | 1 => simp at hj hv; subst hj hv; exact .c _
      | j + 2 => simp at hj
  · refine ⟨.tuple #[e'.val, .bool true], ?_, ?_⟩
    · simp [execOp, ho, hu, hy', Instr.lookup, run_underlying ht, MapKept.run_getObj_map hh, hchk, h1, Result.andThen]
    · rw [h6]
      refine .tup rfl (fun j y v hj hv => ?_)
      match j with
      | 0 => simp at hj hv; subst hj hv; exact h5
      | 1 => simp at hj hv; subst hj hv; exact .c _
      | j + 2 => simp at hj
omit [DecidableEq κ] in
theorem lf_maplen {x : Operand} {i ver : Nat} (ho : o.op = .call { callee := .builtin .len, args := #[x], argTypes := #[t] }) (hd : InB n o.dst) (hx : evA τ x = .mp i ver) (hi : η i = ⟨ver, some (mB ek ev M)⟩) (ht : C.P.underlying t = some (.map k e)) :
    LF C n o τ η ⟨.c (.int .i64 M.length), [], [i]⟩ := by
  refine lf_pure hd (fun τ' η' g1 g2 => ?_)
  intro w0 X mm a w h
  have hi' : η' i = ⟨ver, some (mB ek ev M)⟩ := (g2 i (List.mem_singleton.2 rfl)).trans hi
  have e1 := h.ev x
  rw [g1 x (by simp [ho, Op.operands, Call.operands]), hx] at e1
  obtain ⟨b, es, clock, hu, hb, hh, hpw, hl, hrd⟩ := h.mapAt hi' e1
  refine ⟨.int .i64 M.length, ?_, .c _⟩
  simp [execOp, ho, resolve, invoke, builtin, hu, Builtin.len_, run_underlying ht, MapKept.run_getObj_map hh, goInt, Result.andThen, hl]
end

section
variable {C : Cx} {n : Nat} {w0 : World} {X : XX} {τ : Nat → AV} {η : Nat → Ent} {m : MM} {a : Act} {w : World}
/-- a block of the call's own is written, whatever it is -/
theorem Rep.wr (h : Rep C n w0 X τ η m a w) {i ver b : Nat} {B : Blk} {els' : List (List AV)} {w' : World} (hi : η i = ⟨ver, some B⟩) (hb : m i = some b) (hg : w.grownBy w' (some b)) (hsh : ∀ b', w'.shape? b' = w.shape? b')
    (hnew : Mono w (shp η) m w' (shp η) m → BlkOk w' (shp η) m { B with els := els' } (some b)) : Rep C n w0 X τ (updE η i ⟨ver, some { B with els := els' }⟩) m a w' := by
  have hl : (η i).blk ≠ none := by rw [hi]; simp
  have hs : shp (updE η i ⟨ver, some { B with els := els' }⟩) = shp η := shp_upd hi rfl
  have hm0 : Mono w (shp η) m w' (shp η) m := by
    refine ⟨hg.size, fun b' hb' ho => hg.block b' hb' (fun e => ?_), fun _ _ h => h, fun _ => Nat.le_refl _, fun _ _ => ⟨rfl, fun _ => ⟨rfl, fun b' _ => hsh b'⟩⟩⟩
    injection e with e
    subst e
    exact ho (.inr ⟨i, blk_live.2 hl, hb⟩)
  have hm : Mono w (shp η) m w' (shp (updE η i ⟨ver, some { B with els := els' }⟩)) m := by rw [hs]; exact hm0
  refine h.move hm (h.mem.upd hm (fun _ _ => rfl) (fun i' b' hi' hl' hb' => hg.block b' (h.mem.lt hl' hb') (fun e => ?_)) (fun B' hB' => ?_) (fun i' b' hi' hl' hb' _ e => ?_) (fun b' _ hb' => h.mem.low i b' hl hb') rfl (fun b' _ hb' => h.mem.sep i b' hl hb')) (h.kin.grown hg (fun b' e => ?_)) rfl (fun i' b' hl' hb' => ?_) (fun k _ => by by_cases e : k = i <;> simp [updE, e, hi])
  · injection e with e
    subst e
    exact hi' (h.mem.inj i' i b' hl' hl hb' hb)
  · injection hB' with hB'
    subst hB'
    rw [hb, hs]
    exact hnew hm0
  · exact hi' (h.mem.inj i' i b' hl' hl hb' e)
  · injection e with e
    subst e
    exact h.own i b hl hb
  · by_cases e : i' = i
    · subst e; exact h.own i' b' hl hb'
    · exact h.own i' b' (by simpa [updE, e] using hl') hb'
theorem Rep.freshM (h : Rep C n w0 X τ η m a w) {i ver : Nat} (hin : i < n) (hv : (η i).ver < ver) :
    Rep C n w0 X τ (updE η i ⟨ver, some ⟨1000000, 2, true, []⟩⟩) (newM m i (some w.heap.size)) a (w.alloc (.map #[] 0)) := by
  have hg := World.grownBy_alloc w (.map #[] 0) none
  have hm : Mono w (shp η) m (w.alloc (.map #[] 0)) (shp (updE η i ⟨ver, some ⟨1000000, 2, true, []⟩⟩)) (newM m i (some w.heap.size)) := mono_fresh h.mem hg hv (fun b e => by injection e with e; omega)
  refine h.move hm (h.mem.upd hm (fun i' hi => newM_other _ _ hi) (fun i' b _ hl hb => hg.block b (h.mem.lt hl hb) (by simp)) (fun B' hB' => ?_) (fun i' b _ hl hb _ => ?_) (fun b _ hb => ?_) rfl (fun b _ hb ho => ?_)) (h.kin.grown hg (fun b e => by cases e)) rfl (fun i' b hl hb => ?_) (fun k hk => by simp [updE, show k ≠ i from by omega])
  · injection hB' with hB'
    subst hB'
    rw [newM_same]
    exact ⟨#[], ⟨fun e => (by cases e), fun _ => ⟨#[], 0, heap_alloc_new w _, rfl, rfl, rfl, List.Pairwise.nil⟩⟩, by simp, fun k e he => by simp at he⟩
  · rw [newM_same]
    intro e
    injection e with e
    have := h.mem.lt hl hb
    omega
  · rw [newM_same] at hb
    injection hb with hb
    have := h.mem.big
    omega
  · rw [newM_same] at hb
    injection hb with hb
    have := (h.mem.olt b ho).1
    omega
  · by_cases hi : i' = i
    · subst hi
      rw [newM_same] at hb
      injection hb with hb
      have := h.kin.size
      exact .inr (by omega)
    · rw [newM_other _ _ hi] at hb
      exact h.own i' b (by simpa [updE, hi] using hl) hb
end
section
variable {C : Cx} {n : Nat} {o : Oper} {τ : Nat → AV} {η : Nat → Ent} {κ ν : Type} {ek : κ → Value} {ev : ν → AV} {M : List (κ × ν)} {t k e : TypeId} {K : Value → Prop}
theorem lf_mapnew {d ver : Nat} (ek : κ → Value) (ev : ν → AV) (ho : o.op = .makeMap t none) (hd : o.dst = some d) (hn : d < n) (hv : (η d).ver = ver) : LF C n o τ η ⟨.mp d (ver + 1), [(d, ⟨ver + 1, some (mB ek ev [])⟩)], []⟩ := by
  intro τ' η' g1 g2
  have hv' : (η' d).ver = ver := by rw [g2 d (.inr (by simp [Foot.ids]))]; exact hv
  intro w0 X m a w h
  have hr := h.freshM (i := d) (ver := ver + 1) hn (by omega)
  have hrun : (execOp a.eval o).run C.P w = .ok (.value (.map (some w.heap.size))) (w.alloc (.map #[] 0)) := by
    simp [execOp, ho, Instr.makeMap, newObj, Sem.run]
  unfold Oper.wp
  rw [hrun]
  refine ⟨_, hr.put (by rw [hd]; exact hn) ?_⟩
  exact .mp (sz := 2) (by simp [shp, updE]) (newM_same _ _ _)
theorem lf_mapset [DecidableEq κ] {x y z : Operand} {i ver : Nat} {q : κ} {v : ν} (hK : KeyA C.P k K) (hinj : ∀ x y : κ, ek x = ek y → x = y) (hKe : ∀ x : κ, K (ek x))
    (ho : o.op = .mapUpdate t x y z) (hd : o.dst = none) (hx : evA τ x = .mp i ver) (hi : η i = ⟨ver, some (mB ek ev M)⟩) (hy : evA τ y = .c (ek q)) (hz : evA τ z = ev v) (ht : C.P.underlying t = some (.map k e)) :
    LF C n o τ η ⟨.dead, [(i, ⟨ver, some (mB ek ev (setM M q v))⟩)], []⟩ := by
  intro τ' η' g1 g2
  intro w0 X mm a w h
  have hi' : η' i = ⟨ver, some (mB ek ev M)⟩ := (g2 i (.inr (by simp [Foot.ids]))).trans hi
  have e1 := h.ev x
  have e2 := h.ev y
  have e3 := h.ev z
  rw [g1 x (by simp [ho, Op.operands]), hx] at e1
  rw [g1 y (by simp [ho, Op.operands]), hy] at e2
  rw [g1 z (by simp [ho, Op.operands]), hz] at e3
  obtain ⟨b, es, clock, hu, hb, hh, hpw, hl, hrd⟩ := h.mapAt hi' e1
  have hy' := rv_c e2
  have hchk := hK.check w false (ek q) (hKe q)
  have fin : ∀ (es' : Array MapEntry) (c' : Nat), (execOp a.eval o).run C.P w = .ok .skip { w with heap := w.heap.setIfInBounds b (.map es' c') } → es'.toList.Pairwise (fun x y => x.key ≠ y.key) → es'.size = (setM M q v).length →
      (∀ (j : Nat) (p : κ × ν), (setM M q v)[j]? = some p → ∃ e, es'[j]? = some e ∧ e.key = ek p.1 ∧ RV w (shp η') mm (ev p.2) e.val) →
      o.wp C.P a w (fun a' w' => ∃ m', Rep C n w0 X (putA τ' o.dst .dead) (updAll η' [(i, ⟨ver, some (mB ek ev (setM M q v))⟩)]) m' a' w') (fun _ _ _ => False) := by
    intro es' c' hrun hpw' hl' hrd'
    obtain ⟨s1, s2⟩ := heap_set (o' := .map es' c') hh
    have hg : w.grownBy { w with heap := w.heap.setIfInBounds b (.map es' c') } (some b) := ⟨rfl, rfl, rfl, by simp, fun i _ hi => s2 i (fun e => hi (by rw [e]))⟩
    have hr := h.wr (els' := mE ek ev (setM M q v)) hi' hb hg (fun b' => by
      unfold World.shape?
      by_cases eb : b' = b
      · subst eb; simp only [s1, hh]
      · simp only [s2 b' eb]) (fun hm => by
      refine ⟨(flatE es'.toList).toArray, ⟨fun e => (by cases e), fun _ => ⟨es', c', s1, rfl, by simp [mE, hl'], rfl, hpw'⟩⟩, by simp [mE, mB, flatE_len, hl'], fun j e he => ?_⟩
      have he' : ((setM M q v).map fun p => [AV.c (ek p.1), ev p.2])[j]? = some e := he
      rw [List.getElem?_map] at he'
      obtain ⟨p, hp, hpe⟩ := Option.map_eq_some_iff.1 he'
      subst hpe
      obtain ⟨e', q1, q2, q3⟩ := hrd' j p hp
      obtain ⟨f1, f2⟩ := flatE_at es'.toList j e' (by simpa using q1)
      refine ⟨rfl, fun c y hc => ?_⟩
      match c with
      | 0 => simp at hc; subst hc; exact ⟨e'.key, by simpa [mB] using f1, fun e => (by cases e), by rw [q2]; exact .c _⟩
      | 1 => simp at hc; subst hc; exact ⟨e'.val, by simpa [mB] using f2, fun e => (by cases e), q3.mono hm⟩
      | c + 2 => simp at hc)
    unfold Oper.wp
    rw [hrun]
    refine ⟨mm, ?_⟩
    rw [hd]
    exact hr
  rcases map_find (C := C) hK hinj hKe hpw hl hrd q with ⟨h1, _, hne, hne2⟩ | ⟨j, e', u, h1, h2, h3, h4, h5, _, h7⟩
  · refine fin (es.push ⟨ek q, a.eval z, clock⟩) (clock + 1) ?_ ?_ ?_ ?_
    · simp [execOp, ho, hu, hy', Instr.mapUpdate, run_underlying ht, MapKept.run_getObj_map hh, hchk, h1, MapKept.run_setObj_map _ hh, Result.andThen]
    · rw [Array.toList_push]
      exact List.pairwise_append.2 ⟨hpw, List.pairwise_singleton _ _, fun x hx y hy => by rw [List.mem_singleton.1 hy]; exact hne2 x hx⟩
    · rw [setM_none hne]; simp [hl]
    · intro j p hp
      rw [setM_none hne] at hp
      rcases Nat.lt_or_ge j M.length with hj | hj
      · rw [List.getElem?_append_left hj] at hp
        obtain ⟨e', q1, q2, q3⟩ := hrd j p hp
        have hjs : j < es.size := by rw [hl]; exact hj
        exact ⟨e', by rw [Array.getElem?_push, if_neg (by omega)]; exact q1, q2, q3⟩
      · rw [List.getElem?_append_right hj] at hp
        have hj0 : j - M.length = 0 := by
          have := (List.getElem?_eq_some_iff.1 hp).1
          simp at this
          omega
        rw [hj0] at hp
        simp at hp
        subst hp
        exact ⟨⟨ek q, a.eval z, clock⟩, by rw [Array.getElem?_push, if_pos (by omega)], rfl, e3⟩
  · have hjl : j < es.size := (Array.getElem?_eq_some_iff.1 h2).1
    refine fin (es.modify j (fun x => { x with key := ek q, val := a.eval z })) clock ?_ ?_ ?_ ?_
    · have hst := hK.stays w (ek q) (hKe q)
      simp [execOp, ho, hu, hy', Instr.mapUpdate, run_underlying ht, MapKept.run_getObj_map hh, hchk, h1, h2, h3, hst, MapKept.run_setObj_map _ hh, Result.andThen]
    · have : ((es.modify j (fun x => { x with key := ek q, val := a.eval z })).toList.map (·.key)) = es.toList.map (·.key) := by
        apply List.ext_getElem?
        intro i
        simp only [List.getElem?_map, Array.getElem?_toList, Array.getElem?_modify]
        by_cases hij : j = i
        · subst hij
          rw [if_pos rfl, h2]
          simp [h3]
        · rw [if_neg hij]
      have h8 : (es.toList.map (·.key)).Pairwise (· ≠ ·) := List.pairwise_map.2 hpw
      rw [← this] at h8
      exact List.pairwise_map.1 h8
    · rw [setM_at h4 h7]; simp [hl]
    · intro i p hp
      rw [setM_at h4 h7] at hp
      by_cases hij : j = i
      · subst hij
        rw [List.getElem?_set_self (by omega)] at hp
        simp at hp
        subst hp
        exact ⟨{ e' with key := ek q, val := a.eval z }, by rw [Array.getElem?_modify, if_pos rfl, h2]; rfl, rfl, e3⟩
      · rw [List.getElem?_set_ne hij] at hp
        obtain ⟨e'', q1, q2, q3⟩ := hrd i p hp
        exact ⟨e'', by rw [Array.getElem?_modify, if_neg hij]; exact q1, q2, q3⟩
end
/-- keys and elements -/
def kI : Int → Value := .int .i64
def vI (x : Int) : AV := .c (.int .i64 x)
def vB (x : Bool) : AV := .c (.bool x)
def vS (x : ByteArray) : AV := .c (.string x)
class FrM {ν : Type} (ev : ν → AV) : Prop where
  h : ∀ x, Fr (ev x)
instance : FrM vI := ⟨fun _ => .c _⟩
instance : FrM vB := ⟨fun _ => .c _⟩
instance : FrM vS := ⟨fun _ => .c _⟩
theorem FrL_mE {κ ν : Type} {ek : κ → Value} {ev : ν → AV} (hv : ∀ x, Fr (ev x)) (M : List (κ × ν)) : FrL (mE ek ev M) := by
  intro e he x hx
  obtain ⟨p, _, rfl⟩ := List.mem_map.1 he
  rcases List.mem_cons.1 hx with rfl | hx
  · exact .c _
  · rw [List.mem_singleton.1 hx]; exact hv _
instance {κ ν : Type} {ek : κ → Value} {ev : ν → AV} [a : FrM ev] {M : List (κ × ν)} : FrI (mE ek ev M) := ⟨FrL_mE a.h M⟩
instance {κ ν : Type} {ek : κ → Value} {ev : ν → AV} [a : FrM ev] {M : List (κ × ν)} : FrI (mB ek ev M).els := ⟨FrL_mE a.h M⟩
theorem kI_inj (x y : Int) (h : kI x = kI y) : x = y := by injection h
theorem kI_key {P : Program} {k : TypeId} (hk : P.underlying k = some (.int .i64)) : KeyA P k (IsKey (.int .i64)) := keyA_plain hk
theorem kI_is (x : Int) : IsKey (.int .i64) (kI x) := rfl
end Go.Proofs.Yteapjpgabdegnaa.Am
/- Models printed by my decompiler, and the proofs that the code computes them. -/
namespace Go.Proofs.Yteapjpgabdegnaa.Am
open Go.RowKit
theorem ci_XDPl {p K : Prop} (k : K) (h : p := by first | rfl | exact ⟨rfl, rfl⟩ | exact BW.fr FrV.h | (refine BW.fr ?_; assumption) | (refine ⟨rfl, ?_⟩; (simp [cGTask, cI, cF, cGOp, cGEffect, cL_cF, take_len_map]; done)) | (refine RowK.same ?_ FrI.h; first | rfl | (simp [cGTask, cI, cF, cGOp, cGEffect, cL_cF, take_len_map]; done)) | (refine row_part1 ?_; (repeat (first | exact BWL.nil | exact bwll_nil | exact bw_c | exact BW.sl | exact BW.nil | exact bwll_same rfl FrI.h | refine BWL.cons ?_ ?_ | refine bwll_cons ?_ ?_ | (refine bw_own3 rfl rfl rfl FrI.h ?_ ?_ ?_) | exact BW.fr FrV.h | exact BW.fr (by assumption) | refine bw_agg ?_ | refine bw_clo ?_ | refine bw_ptr rfl rfl rfl ?_ | (refine bw_own rfl rfl rfl ?_ FrI.h ?_ ?_) | assumption | omega | rfl | (rw [List.length_map, ← List.length_append]; assumption) | (refine bwll_same ?_ FrI.h; (simp [cGTask, cI, cF, cGOp, cGEffect, cL_cF] <;> fail)) | (rw [List.map_set]; refine bwll_set (by first | rfl | omega | simp) ?_ ?_) | refine bwll_set (by first | rfl | omega | simp) ?_ ?_ | (rw [List.map_replicate]; refine bwll_rep ?_) | refine bwll_rep ?_ | (rw [List.map_append]; refine bwll_append ?_ ?_) | refine bwll_append ?_ ?_ | (simp [cGTask, cI, cF, cGOp, cGEffect, cL_cF, take_len_map] <;> fail) | (rw [List.drop_zero, List.take_of_length_le] <;> first | rfl | (simp [cGTask, cI, cF, cGOp, cGEffect, cL_cF] <;> fail)) | (simp; omega) | (simp only [List.length_map, List.length_append, List.drop_zero, List.length_cons, List.length_nil, Nat.zero_add, Nat.add_zero] at *; omega))); done) | ((repeat (first | exact BWL.nil | exact bwll_nil | exact bw_c | exact BW.sl | exact BW.nil | exact bwll_same rfl FrI.h | refine BWL.cons ?_ ?_ | refine bwll_cons ?_ ?_ | (refine bw_own3 rfl rfl rfl FrI.h ?_ ?_ ?_) | exact BW.fr FrV.h | exact BW.fr (by assumption) | refine bw_agg ?_ | refine bw_clo ?_ | refine bw_ptr rfl rfl rfl ?_ | (refine bw_own rfl rfl rfl ?_ FrI.h ?_ ?_) | assumption | omega | rfl | (rw [List.length_map, ← List.length_append]; assumption) | (refine bwll_same ?_ FrI.h; (simp [cGTask, cI, cF, cGOp, cGEffect, cL_cF] <;> fail)) | (rw [List.map_set]; refine bwll_set (by first | rfl | omega | simp) ?_ ?_) | refine bwll_set (by first | rfl | omega | simp) ?_ ?_ | (rw [List.map_replicate]; refine bwll_rep ?_) | refine bwll_rep ?_ | (rw [List.map_append]; refine bwll_append ?_ ?_) | refine bwll_append ?_ ?_ | (simp [cGTask, cI, cF, cGOp, cGEffect, cL_cF, take_len_map] <;> fail) | (rw [List.drop_zero, List.take_of_length_le] <;> first | rfl | (simp [cGTask, cI, cF, cGOp, cGEffect, cL_cF] <;> fail)) | (simp; omega) | (simp only [List.length_map, List.length_append, List.drop_zero, List.length_cons, List.length_nil, Nat.zero_add, Nat.add_zero] at *; omega))); done) | (simp [cGTask, cI, cF, cGOp, cGEffect, cL_cF, take_len_map]; done)) : p ∧ K := ⟨h, k⟩
theorem ca_XDPl {P : Prop} (h : P := by repeat (first | exact True.intro | refine ci_XDPl ?_)) : P := h
theorem pr_XDPl {p K : Prop} (k : K) (h : p := by first | assumption | exact Int.natCast_nonneg _ | exact Nat.le_refl _ | exact Nat.zero_le _ | omega | (simp; done) | (simp; omega)) : p ∧ K := ⟨h, k⟩
theorem dr_XDPl {b : Bool} {p K : Prop} (k : K) (h : b = true → p := by intro h; first | (cases h; done) | exact ⟨by kernel_rfl, by kernel_rfl⟩) : (b = true → p) ∧ K := ⟨h, k⟩
theorem cl_XDPl {C : Cx} {n : Nat} {o : Oper} {τ : Nat → AV} {η : Nat → Ent} {f : FuncId} {os : Array Operand} {ats : Array TypeId} {r : AV} {args : List AV} {K : Foot → Prop} (ho : o.op = .call ⟨.value (.func f), os, ats⟩) (hc : ACall C f args r) (k : K ⟨r, [], []⟩)
    (hd : InB n o.dst := by exact Nat.le_of_ble_eq_true rfl) (hargs : os.toList.map (evA τ) = args := by first | rfl | (simp [cGTask, cI, cF, cGOp, cGEffect, cL_cF]; done) | (repeat (first | exact rfl | refine cons_eq ?_ ?_ | exact sl_dt rfl))) (hfr : frs args := by repeat (first | exact trivial | exact fr1_eA _ | exact fr0_eA _ | exact fr1_fr (by assumption) | exact FrV.h | refine And.intro ?_ ?_)) (hr : fr1 r := by repeat (first | exact trivial | exact fr1_eA _ | exact fr0_eA _ | exact fr1_fr (by assumption) | exact FrV.h | refine And.intro ?_ ?_)) : ∃ f : Foot, LF C n o τ η f ∧ K f := ⟨_, lf_call ho hd hargs hc hfr hr, k⟩
def M_b_Plain_L1 (y45 : GOp) : Nat → Int → Option (Unit ⊕ Bool)
  | 0, _ => none
  | k50 + 1, v49 =>
    sel (decide (v49 < ((y45.Effs.map cGEffect).length : Int)))
     (ix y45.Effs v49 (fun y51 =>
       sel (decide (((y51.When.map cF).length : Int) > 0))
        (some (.inr false))
        (M_b_Plain_L1 y45 k50 (IntKind.i64.wrap (v49 + 1)))))
     (some (.inl ()))
def M_b_Plain_L2 (a0 : GTask) : Nat → Int → Option (Bool)
  | 0, _ => none
  | k35 + 1, v34 =>
    sel (decide (v34 < ((a0.Ops.map cGOp).length : Int)))
     (ob1 (ix a0.Ops v34 (fun y45 =>
        M_b_Plain_L1 y45 ((((y45.Effs.map cGEffect).length : Int)).toNat + 1) 0) : Option (Unit ⊕ Bool))
       (osum
       (fun _ => M_b_Plain_L2 a0 k35 (IntKind.i64.wrap (v34 + 1)))
       (fun r43 => some r43)))
     (some true)
def M_b_Plain (a0 : GTask) : Option (Bool) :=
  M_b_Plain_L2 a0 ((((a0.Ops.map cGOp).length : Int)).toNat + 1) 0
set_option maxHeartbeats 16000000 in
set_option maxRecDepth 100000 in
theorem A_b_Plain (a0 : GTask) {r1 : Bool} (h : M_b_Plain a0 = some r1) : ACall cx 13 [.agg [.sl 1 (a0.Vars.map cI), .sl 1 (a0.Init.map cI), .sl 2 (a0.Goal.map cF), .sl 4 (a0.Ops.map cGOp)]] (.c (.bool r1)) := by
  refine aOf Try.func13 rfl (by decide) rfl (Nat.le_of_ble_eq_true rfl) ?_; intro _; unfold M_b_Plain at h; refine aSq ?_; refine aRg ?_; intro _; refine dr_XDPl ?_; refine aSq ?_; refine aSq ?_; refine aRg ?_; intro _; refine dr_XDPl ?_; refine aBk ?_; refine awp_loop (α := Nat × Int) (fun x => mkS 27 [(8, .sl 4 (a0.Ops.map cGOp)), (9, .c (.int .i64 ((a0.Ops.map cGOp).length : Int))), (10, .c (.int .i64 x.2))] []) (fun x => M_b_Plain_L2 a0 x.1 x.2 = some r1) (fun x => x.1) ((((a0.Ops.map cGOp).length : Int)).toNat + 1, 0) h ?_ ?_
  · exact ca_XDPl
  · intro x1 h; intro _; obtain ⟨k35, m2, h⟩ := succ_of (f := fun n => M_b_Plain_L2 a0 n x1.2) rfl h; replace h : M_b_Plain_L2 a0 (k35 + 1) x1.2 = some r1 := h; rw [M_b_Plain_L2] at h; refine aSq ?_; refine aRg ?_; intro _; refine dr_XDPl ?_; refine aSq ?_; refine aCd ?_; intro _; refine spl h (fun c3 h => ?_) (fun c3 h => ?_)
    · refine aSk ?_; obtain ⟨o4, h, hK5⟩ := ob1_ok h; refine awp_cut (α := Unit) (fun _ => mkS 27 [(8, .sl 4 (a0.Ops.map cGOp)), (9, .c (.int .i64 ((a0.Ops.map cGOp).length : Int))), (10, .c (.int .i64 x1.2))] []) (fun v => o4 = (.inl v)) ?_ ?_
      · refine aBk ?_; refine aSq ?_; refine aRg ?_; intro _; obtain ⟨y45, w6, q7, h⟩ := ix_ok h; refine Exists.intro (cGOp y45) (And.intro (map_at' w6) ?_); intro _; refine pr_XDPl ?_; refine dr_XDPl ?_; refine aSq ?_; refine aRg ?_; intro _; refine dr_XDPl ?_; refine aBk ?_; refine awp_loop (α := Nat × Int) (fun x => mkS 27 [(8, .sl 4 (a0.Ops.map cGOp)), (9, .c (.int .i64 ((a0.Ops.map cGOp).length : Int))), (10, .c (.int .i64 x1.2)), (15, .sl 3 (y45.Effs.map cGEffect)), (16, .c (.int .i64 ((y45.Effs.map cGEffect).length : Int))), (17, .c (.int .i64 x.2))] []) (fun x => M_b_Plain_L1 y45 x.1 x.2 = some o4) (fun x => x.1) ((((y45.Effs.map cGEffect).length : Int)).toNat + 1, 0) h ?_ ?_
        · exact ca_XDPl
        · intro x8 h; intro _; obtain ⟨k50, m9, h⟩ := succ_of (f := fun n => M_b_Plain_L1 y45 n x8.2) rfl h; replace h : M_b_Plain_L1 y45 (k50 + 1) x8.2 = some o4 := h; rw [M_b_Plain_L1] at h; refine aSq ?_; refine aRg ?_; intro _; refine dr_XDPl ?_; refine aSq ?_; refine aCd ?_; intro _; refine spl h (fun c10 h => ?_) (fun c10 h => ?_)
          · refine aSk ?_; refine aSq ?_; refine aBk ?_; refine aSq ?_; refine aRg ?_; intro _; obtain ⟨y51, w11, q12, h⟩ := ix_ok h; refine Exists.intro (cGEffect y51) (And.intro (map_at' w11) ?_); intro _; refine pr_XDPl ?_; refine dr_XDPl ?_; refine aSq ?_; refine aRg ?_; intro _; refine dr_XDPl ?_; refine aCd ?_; intro _; refine spl h (fun c13 h => ?_) (fun c13 h => ?_)
            · refine aSq ?_; refine aRg ?_; intro _; refine dr_XDPl ?_; refine aRt ?_; have j14 := Option.some.inj h; subst j14; replace h := (osum_r hK5); intro _; obtain rfl := inj1 h; exact ca_XDPl
            · refine aSk ?_; refine aRg ?_; intro _; refine dr_XDPl ?_; refine ⟨(k50, (IntKind.i64.wrap (x8.2 + 1))), h, ltS m9, ?_⟩; exact ca_XDPl
          · refine aEx ?_; refine ⟨(), (Option.some.inj h).symm, ?_⟩; exact ca_XDPl
      · rintro _ ho; have ho := ho.symm; subst ho; intro _; replace h := (osum_l hK5); refine aRg ?_; intro _; refine dr_XDPl ?_; refine ⟨(k35, (IntKind.i64.wrap (x1.2 + 1))), h, ltS m2, ?_⟩; exact ca_XDPl
    · refine aEx ?_; refine aSq ?_; refine aRg ?_; intro _; refine dr_XDPl ?_; refine aRt ?_; intro _; obtain rfl := inj1 h; exact ca_XDPl
def M_l26_RegressPlain_L1 (y35 : GOp) : Nat → Int → (List (Int × Int)) → Option (List (Int × Int))
  | 0, _, _ => none
  | k42 + 1, v40, v41 =>
    sel (decide (v40 < ((y35.Pre.map cF).length : Int)))
     (ix y35.Pre v40 (fun y43 =>
       M_l26_RegressPlain_L1 y35 k42 (IntKind.i64.wrap (v40 + 1)) (setM v41 y43.1 y43.2)))
     (some v41)
def M_l26_RegressPlain_L2 (y328 : Fact) (y340 : GOp) : Nat → Int → Int → Option (Int)
  | 0, _, _ => none
  | k347 + 1, v345, v346 =>
    sel (decide (v346 < ((y340.Effs.map cGEffect).length : Int)))
     (ix y340.Effs v346 (fun y348 =>
       sel (y348.Var == y328.1)
        (M_l26_RegressPlain_L2 y328 y340 k347 y348.Val (IntKind.i64.wrap (v346 + 1)))
        (M_l26_RegressPlain_L2 y328 y340 k347 v345 (IntKind.i64.wrap (v346 + 1)))))
     (some v345)
def M_l26_RegressPlain_L3 (a0 : GTask) (a1 : Int) (a2 : List Fact) (z21 : List (List Fact)) : Nat → Int → (List (Int × Int)) → Option ((List (Int × Int)) ⊕ Bool)
  | 0, _, _ => none
  | k301 + 1, v299, v300 =>
    sel (decide (v299 < ((a2.map cF).length : Int)))
     (ob1 (ix a2 v299 (fun y328 =>
        ob1 (ix a0.Ops ((IntKind.i64.wrap a1).tmod ((a0.Ops.map cGOp).length : Int)) (fun y340 =>
          M_l26_RegressPlain_L2 y328 y340 ((((y340.Effs.map cGEffect).length : Int)).toNat + 1) (-1) 0) : Option (Int))
         (fun v338 => ob1 (sel (decide (v338 ≥ 0))
             (sel (v338 != y328.2)
               (some (.inr (((z21.map cL_cF).length : Int) == 0)))
               (some (.inl ())))
             (some (.inl ())) : Option (Unit ⊕ Bool))
            (osum
            (fun _ => sel (decide (v338 < 0))
               (sel ((getM v300 y328.1).isSome)
                 (sel (((getM v300 y328.1).getD 0) != y328.2)
                   (some (.inr (((z21.map cL_cF).length : Int) == 0)))
                   (some (.inl (setM v300 y328.1 y328.2))))
                 (some (.inl (setM v300 y328.1 y328.2))))
               (some (.inl v300)))
            (fun r349 => some (.inr r349))))) : Option ((List (Int × Int)) ⊕ Bool))
       (osum
       (fun v325 => M_l26_RegressPlain_L3 a0 a1 a2 z21 k301 (IntKind.i64.wrap (v299 + 1)) v325)
       (fun r326 => some (.inr r326))))
     (some (.inl v300))
def M_l26_RegressPlain_L4 (v196 : List (Int × Int)) (y355 : List Fact) : Nat → Int → Option (Bool)
  | 0, _ => none
  | k360 + 1, v359 =>
    sel (decide (v359 < ((y355.map cF).length : Int)))
     (ix y355 v359 (fun y361 =>
       sel (!((getM v196 y361.1).isSome))
        (some false)
        (sel (((getM v196 y361.1).getD 0) != y361.2)
          (some false)
          (M_l26_RegressPlain_L4 v196 y355 k360 (IntKind.i64.wrap (v359 + 1))))))
     (some true)
def M_l26_RegressPlain (g : Nat) (a0 : GTask) (a1 : Int) (a2 : List Fact) : Option (Bool) :=
  ob1 (ob1 (M_b_Small a0) (fun z12 =>
    sel (!z12)
     (ob1 (M_l26_awake g) (fun z20 =>
       some (.inr z20)))
     (sel (((a0.Ops.map cGOp).length : Int) == 0)
       (ob1 (M_l26_awake g) (fun z19 =>
         some (.inr z19)))
       (ob1 (M_b_Proper a0.Vars a2) (fun z13 =>
         sel (!z13)
          (ob1 (M_l26_awake g) (fun z18 =>
            some (.inr z18)))
          (ob1 (M_b_Plain a0) (fun z14 =>
            sel (!z14)
             (ob1 (M_l26_awake g) (fun z17 =>
               some (.inr z17)))
             (ob1 (M_l26_awake g) (fun z15 =>
               sel (!z15)
                (ob1 (M_l26_awake g) (fun z16 =>
                  some (.inr z16)))
                (some (.inl ())))))))))) : Option (Unit ⊕ Bool))
   (osum
   (fun _ => grd (((a0.Ops.map cGOp).length : Int) ≠ 0) (ob2 (M_g_Regress g a0 ((IntKind.i64.wrap a1).tmod ((a0.Ops.map cGOp).length : Int)) a2) (fun z21 z22 =>
      erM z22
       (ob1 (ix a0.Ops ((IntKind.i64.wrap a1).tmod ((a0.Ops.map cGOp).length : Int)) (fun y35 =>
          M_l26_RegressPlain_L1 y35 ((((y35.Pre.map cF).length : Int)).toNat + 1) 0 []) : Option (List (Int × Int)))
         (fun v33 => ob1 (M_l26_RegressPlain_L3 a0 a1 a2 z21 ((((a2.map cF).length : Int)).toNat + 1) 0 v33 : Option ((List (Int × Int)) ⊕ Bool))
            (osum
            (fun v196 => ob1 (sel (((z21.map cL_cF).length : Int) != 1)
                (some (.inr false))
                (ix z21 0 (fun y354 =>
                  sel (((y354.map cF).length : Int) != ((v196.length : Nat) : Int))
                   (some (.inr false))
                   (some (.inl ())))) : Option (Unit ⊕ Bool))
               (osum
               (fun _ => ix z21 0 (fun y355 =>
                  M_l26_RegressPlain_L4 v196 y355 ((((y355.map cF).length : Int)).toNat + 1) 0))
               (fun r352 => some r352)))
            (fun r197 => some r197))))
       (fun _ => some false))))
   (fun r10 => some r10))
set_option maxHeartbeats 16000000 in
set_option maxRecDepth 100000 in
theorem A_l26_RegressPlain (g : Nat) (a0 : GTask) (a1 : Int) (a2 : List Fact) {r1 : Bool} (h : M_l26_RegressPlain g a0 a1 a2 = some r1) : ACall cx 3 [.agg [.sl 1 (a0.Vars.map cI), .sl 1 (a0.Init.map cI), .sl 2 (a0.Goal.map cF), .sl 4 (a0.Ops.map cGOp)], .c (.int .u8 a1), .sl 2 (a2.map cF)] (.c (.bool r1)) := by
  refine aOf Try.func3 rfl (by decide) rfl (Nat.le_of_ble_eq_true rfl) ?_; intro _; unfold M_l26_RegressPlain at h; refine aSq ?_; refine aRg ?_; intro _; refine dr_XDPl ?_; obtain ⟨o1, h, hK2⟩ := ob1_ok h; refine awp_cut (α := Unit) (fun _ => mkS 180 [(1, .c (.int .u8 a1)), (2, .sl 2 (a2.map cF)), (3, .ptr 3 0 0 0)] [(3, ⟨26, 4, true, [[.sl 1 (a0.Vars.map cI), .sl 1 (a0.Init.map cI), .sl 2 (a0.Goal.map cF), .sl 4 (a0.Ops.map cGOp)]]⟩)]) (fun v => o1 = (.inl v)) ?_ ?_
  · refine aSq ?_; refine aRg ?_; intro _; obtain ⟨z12, u3, h⟩ := ob1_ok h; refine cl_XDPl rfl (A_b_Small a0 u3) ?_; intro _; refine spf h (fun c4 h => ?_) (fun c4 h => ?_)
    · intro _; refine spf h (fun c5 h => ?_) (fun c5 h => ?_)
      · intro _; obtain ⟨z13, u6, h⟩ := ob1_ok h; refine cl_XDPl rfl (A_b_Proper a0.Vars a2 u6) ?_; intro _; refine spf h (fun c7 h => ?_) (fun c7 h => ?_)
        · intro _; obtain ⟨z14, u8, h⟩ := ob1_ok h; refine cl_XDPl rfl (A_b_Plain a0 u8) ?_; intro _; refine spf h (fun c9 h => ?_) (fun c9 h => ?_)
          · intro _; obtain ⟨z15, u10, h⟩ := ob1_ok h; refine cl_XDPl rfl (A_l26_awake g u10) ?_; intro _; refine dr_XDPl ?_; refine aCd ?_; intro _; refine spl h (fun c11 h => ?_) (fun c11 h => ?_)
            · refine aSq ?_; refine aRg ?_; intro _; obtain ⟨z16, u12, h⟩ := ob1_ok h; refine cl_XDPl rfl (A_l26_awake g u12) ?_; intro _; refine dr_XDPl ?_; refine aRt ?_; have j13 := Option.some.inj h; subst j13; replace h := (osum_r hK2); intro _; obtain rfl := inj1 h; exact ca_XDPl
            · refine aSk ?_; refine ⟨(), (Option.some.inj h).symm, ?_⟩; exact ca_XDPl
          · intro _; refine dr_XDPl ?_; refine aCd ?_; intro _; refine litT ?_; refine aSq ?_; refine aRg ?_; intro _; obtain ⟨z17, u14, h⟩ := ob1_ok h; refine cl_XDPl rfl (A_l26_awake g u14) ?_; intro _; refine dr_XDPl ?_; refine aRt ?_; have j15 := Option.some.inj h; subst j15; replace h := (osum_r hK2); intro _; obtain rfl := inj1 h; exact ca_XDPl
        · intro _; refine dr_XDPl ?_; refine aCd ?_; intro _; refine litT ?_; refine aSq ?_; refine aRg ?_; intro _; obtain ⟨z18, u16, h⟩ := ob1_ok h; refine cl_XDPl rfl (A_l26_awake g u16) ?_; intro _; refine dr_XDPl ?_; refine aRt ?_; have j17 := Option.some.inj h; subst j17; replace h := (osum_r hK2); intro _; obtain rfl := inj1 h; exact ca_XDPl
      · intro _; refine dr_XDPl ?_; refine aCd ?_; intro _; refine litT ?_; refine aSq ?_; refine aRg ?_; intro _; obtain ⟨z19, u18, h⟩ := ob1_ok h; refine cl_XDPl rfl (A_l26_awake g u18) ?_; intro _; refine dr_XDPl ?_; refine aRt ?_; have j19 := Option.some.inj h; subst j19; replace h := (osum_r hK2); intro _; obtain rfl := inj1 h; exact ca_XDPl
    · intro _; refine dr_XDPl ?_; refine aCd ?_; intro _; refine litT ?_; refine aSq ?_; refine aRg ?_; intro _; obtain ⟨z20, u20, h⟩ := ob1_ok h; refine cl_XDPl rfl (A_l26_awake g u20) ?_; intro _; refine dr_XDPl ?_; refine aRt ?_; have j21 := Option.some.inj h; subst j21; replace h := (osum_r hK2); intro _; obtain rfl := inj1 h; exact ca_XDPl
  · rintro _ ho; have ho := ho.symm; subst ho; intro _; replace h := (osum_l hK2); refine aSq ?_; refine aRg ?_; intro _; obtain ⟨q22, h⟩ := grd_ok h; refine ⟨rfl, ?_⟩; refine pr_XDPl ?_; refine dr_XDPl ?_; refine aSq ?_; refine aRg ?_; intro _; obtain ⟨z21, z22, u23, h⟩ := ob2_ok h; refine cl_XDPl rfl (A_g_Regress g a0 ((IntKind.i64.wrap a1).tmod ((a0.Ops.map cGOp).length : Int)) a2 u23) ?_; intro _; refine dr_XDPl ?_; refine aSq ?_; refine aSq ?_; rcases z22 with _ | e23
    · replace h := erM_nil h; refine aRg ?_; intro _; refine dr_XDPl ?_; refine aCd ?_; intro _; refine litF ?_; refine aSk ?_; refine aSq ?_; refine aRg ?_; intro _; refine ⟨_, lf_mapnew kI vI rfl rfl (Nat.le_of_ble_eq_true rfl) rfl, ?_⟩; intro _; refine dr_XDPl ?_; obtain ⟨o24, h, hK25⟩ := ob1_ok h; refine awp_cut (α := List (Int × Int)) (fun v33 => mkS 180 [(2, .sl 2 (a2.map cF)), (3, .ptr 3 0 0 0), (7, .c (.int .i64 ((IntKind.i64.wrap a1).tmod ((a0.Ops.map cGOp).length : Int)))), (8, .sl 1 (z21.map cL_cF)), (10, .mp 65 0)] [(3, ⟨26, 4, true, [[.sl 1 (a0.Vars.map cI), .sl 1 (a0.Init.map cI), .sl 2 (a0.Goal.map cF), .sl 4 (a0.Ops.map cGOp)]]⟩), (65, mB kI vI v33)]) (fun v => o24 = v) ?_ ?_
      · refine aSq ?_; refine aRg ?_; intro _; obtain ⟨y35, w26, q27, h⟩ := ix_ok h; refine Exists.intro (cGOp y35) (And.intro (map_at' w26) ?_); intro _; refine pr_XDPl ?_; refine dr_XDPl ?_; refine aBk ?_; refine awp_loop (α := Nat × Int × (List (Int × Int))) (fun x => mkS 180 [(2, .sl 2 (a2.map cF)), (3, .ptr 3 0 0 0), (7, .c (.int .i64 ((IntKind.i64.wrap a1).tmod ((a0.Ops.map cGOp).length : Int)))), (8, .sl 1 (z21.map cL_cF)), (10, .mp 65 0), (71, .sl 2 (y35.Pre.map cF)), (72, .c (.int .i64 ((y35.Pre.map cF).length : Int))), (73, .c (.int .i64 x.2.1))] [(3, ⟨26, 4, true, [[.sl 1 (a0.Vars.map cI), .sl 1 (a0.Init.map cI), .sl 2 (a0.Goal.map cF), .sl 4 (a0.Ops.map cGOp)]]⟩), (65, mB kI vI x.2.2)]) (fun x => M_l26_RegressPlain_L1 y35 x.1 x.2.1 x.2.2 = some o24) (fun x => x.1) ((((y35.Pre.map cF).length : Int)).toNat + 1, 0, []) h ?_ ?_
        · exact ca_XDPl
        · intro x28 h; intro _; obtain ⟨k42, m29, h⟩ := succ_of (f := fun n => M_l26_RegressPlain_L1 y35 n x28.2.1 x28.2.2) rfl h; replace h : M_l26_RegressPlain_L1 y35 (k42 + 1) x28.2.1 x28.2.2 = some o24 := h; rw [M_l26_RegressPlain_L1] at h; refine aSq ?_; refine aRg ?_; intro _; refine dr_XDPl ?_; refine aSq ?_; refine aCd ?_; intro _; refine spl h (fun c30 h => ?_) (fun c30 h => ?_)
          · refine aSk ?_; refine aSq ?_; refine aBk ?_; refine aSq ?_; refine aRg ?_; intro _; obtain ⟨y43, w31, q32, h⟩ := ix_ok h; refine Exists.intro (cF y43) (And.intro (map_at' w31) ?_); intro _; refine pr_XDPl ?_; refine dr_XDPl ?_; refine aRg ?_; intro _; refine ⟨_, lf_mapset (q := y43.1) (v := y43.2) (kI_key Try.underlying3) kI_inj kI_is rfl rfl rfl rfl rfl rfl Try.underlying35, ?_⟩; intro _; refine dr_XDPl ?_; refine aRg ?_; intro _; refine dr_XDPl ?_; refine ⟨(k42, (IntKind.i64.wrap (x28.2.1 + 1)), (setM x28.2.2 y43.1 y43.2)), h, ltS m29, ?_⟩; exact ca_XDPl
          · refine aEx ?_; refine ⟨x28.2.2, (Option.some.inj h).symm, ?_⟩; exact ca_XDPl
      · rintro v33 ho; have ho := ho.symm; subst ho; intro _; replace h := hK25; obtain ⟨o33, h, hK34⟩ := ob1_ok h; refine awp_cut (α := List (Int × Int)) (fun v196 => mkS 180 [(8, .sl 1 (z21.map cL_cF)), (10, .mp 65 0)] [(65, mB kI vI v196)]) (fun v => o33 = (.inl v)) ?_ ?_
        · refine aSq ?_; refine aRg ?_; intro _; refine dr_XDPl ?_; refine aBk ?_; refine awp_loop (α := Nat × Int × (List (Int × Int))) (fun x => mkS 180 [(3, .ptr 3 0 0 0), (7, .c (.int .i64 ((IntKind.i64.wrap a1).tmod ((a0.Ops.map cGOp).length : Int)))), (8, .sl 1 (z21.map cL_cF)), (10, .mp 65 0), (83, .sl 2 (a2.map cF)), (84, .c (.int .i64 ((a2.map cF).length : Int))), (85, .c (.int .i64 x.2.1))] [(3, ⟨26, 4, true, [[.sl 1 (a0.Vars.map cI), .sl 1 (a0.Init.map cI), .sl 2 (a0.Goal.map cF), .sl 4 (a0.Ops.map cGOp)]]⟩), (65, mB kI vI x.2.2)]) (fun x => M_l26_RegressPlain_L3 a0 a1 a2 z21 x.1 x.2.1 x.2.2 = some o33) (fun x => x.1) ((((a2.map cF).length : Int)).toNat + 1, 0, v33) h ?_ ?_
          · exact ca_XDPl
          · intro x35 h; intro _; obtain ⟨k301, m36, h⟩ := succ_of (f := fun n => M_l26_RegressPlain_L3 a0 a1 a2 z21 n x35.2.1 x35.2.2) rfl h; replace h : M_l26_RegressPlain_L3 a0 a1 a2 z21 (k301 + 1) x35.2.1 x35.2.2 = some o33 := h; rw [M_l26_RegressPlain_L3] at h; refine aSq ?_; refine aRg ?_; intro _; refine dr_XDPl ?_; refine aSq ?_; refine aCd ?_; intro _; refine spl h (fun c37 h => ?_) (fun c37 h => ?_)
            · refine aSk ?_; obtain ⟨o38, h, hK39⟩ := ob1_ok h; refine awp_cut (α := List (Int × Int)) (fun v325 => mkS 180 [(3, .ptr 3 0 0 0), (7, .c (.int .i64 ((IntKind.i64.wrap a1).tmod ((a0.Ops.map cGOp).length : Int)))), (8, .sl 1 (z21.map cL_cF)), (10, .mp 65 0), (83, .sl 2 (a2.map cF)), (84, .c (.int .i64 ((a2.map cF).length : Int))), (85, .c (.int .i64 x35.2.1))] [(3, ⟨26, 4, true, [[.sl 1 (a0.Vars.map cI), .sl 1 (a0.Init.map cI), .sl 2 (a0.Goal.map cF), .sl 4 (a0.Ops.map cGOp)]]⟩), (65, mB kI vI v325)]) (fun v => o38 = (.inl v)) ?_ ?_
              · refine aBk ?_; refine aSq ?_; refine aRg ?_; intro _; obtain ⟨y328, w40, q41, h⟩ := ix_ok h; refine Exists.intro (cF y328) (And.intro (map_at' w40) ?_); intro _; refine pr_XDPl ?_; refine dr_XDPl ?_; refine aSq ?_; refine aRg ?_; intro _; refine dr_XDPl ?_; obtain ⟨o42, h, hK43⟩ := ob1_ok h; refine awp_cut (α := Int) (fun v338 => mkS 180 [(3, .ptr 3 0 0 0), (7, .c (.int .i64 ((IntKind.i64.wrap a1).tmod ((a0.Ops.map cGOp).length : Int)))), (8, .sl 1 (z21.map cL_cF)), (10, .mp 65 0), (14, .ptr 14 0 0 0), (15, .c (.int .i64 v338)), (83, .sl 2 (a2.map cF)), (84, .c (.int .i64 ((a2.map cF).length : Int))), (85, .c (.int .i64 x35.2.1))] [(3, ⟨26, 4, true, [[.sl 1 (a0.Vars.map cI), .sl 1 (a0.Init.map cI), .sl 2 (a0.Goal.map cF), .sl 4 (a0.Ops.map cGOp)]]⟩), (14, ⟨40, 2, true, [[.c (.int .i64 y328.1), .c (.int .i64 y328.2)]]⟩), (65, mB kI vI x35.2.2)]) (fun v => o42 = v) ?_ ?_
                · refine aSq ?_; refine aRg ?_; intro _; obtain ⟨y340, w44, q45, h⟩ := ix_ok h; refine Exists.intro (cGOp y340) (And.intro (map_at' w44) ?_); intro _; refine pr_XDPl ?_; refine dr_XDPl ?_; refine aBk ?_; refine awp_loop (α := Nat × Int × Int) (fun x => mkS 180 [(3, .ptr 3 0 0 0), (7, .c (.int .i64 ((IntKind.i64.wrap a1).tmod ((a0.Ops.map cGOp).length : Int)))), (8, .sl 1 (z21.map cL_cF)), (10, .mp 65 0), (14, .ptr 14 0 0 0), (15, .c (.int .i64 x.2.1)), (83, .sl 2 (a2.map cF)), (84, .c (.int .i64 ((a2.map cF).length : Int))), (85, .c (.int .i64 x35.2.1)), (94, .sl 3 (y340.Effs.map cGEffect)), (95, .c (.int .i64 ((y340.Effs.map cGEffect).length : Int))), (96, .c (.int .i64 x.2.2))] [(3, ⟨26, 4, true, [[.sl 1 (a0.Vars.map cI), .sl 1 (a0.Init.map cI), .sl 2 (a0.Goal.map cF), .sl 4 (a0.Ops.map cGOp)]]⟩), (14, ⟨40, 2, true, [[.c (.int .i64 y328.1), .c (.int .i64 y328.2)]]⟩), (65, mB kI vI x35.2.2)]) (fun x => M_l26_RegressPlain_L2 y328 y340 x.1 x.2.1 x.2.2 = some o42) (fun x => x.1) ((((y340.Effs.map cGEffect).length : Int)).toNat + 1, (-1), 0) h ?_ ?_
                  · exact ca_XDPl
                  · intro x46 h; intro _; obtain ⟨k347, m47, h⟩ := succ_of (f := fun n => M_l26_RegressPlain_L2 y328 y340 n x46.2.1 x46.2.2) rfl h; replace h : M_l26_RegressPlain_L2 y328 y340 (k347 + 1) x46.2.1 x46.2.2 = some o42 := h; rw [M_l26_RegressPlain_L2] at h; refine aSq ?_; refine aRg ?_; intro _; refine dr_XDPl ?_; refine aSq ?_; refine aCd ?_; intro _; refine spl h (fun c48 h => ?_) (fun c48 h => ?_)
                    · refine aSk ?_; refine aSq ?_; refine aBk ?_; refine aSq ?_; refine aRg ?_; intro _; obtain ⟨y348, w49, q50, h⟩ := ix_ok h; refine Exists.intro (cGEffect y348) (And.intro (map_at' w49) ?_); intro _; refine pr_XDPl ?_; refine dr_XDPl ?_; refine aSq ?_; refine aRg ?_; intro _; refine dr_XDPl ?_; refine aCd ?_; intro _; refine spl h (fun c51 h => ?_) (fun c51 h => ?_)
                      · refine aRg ?_; intro _; refine dr_XDPl ?_; refine aRg ?_; intro _; refine dr_XDPl ?_; refine ⟨(k347, y348.Val, (IntKind.i64.wrap (x46.2.2 + 1))), h, ltS m47, ?_⟩; exact ca_XDPl
                      · refine aSk ?_; refine aRg ?_; intro _; refine dr_XDPl ?_; refine ⟨(k347, x46.2.1, (IntKind.i64.wrap (x46.2.2 + 1))), h, ltS m47, ?_⟩; exact ca_XDPl
                    · refine aEx ?_; refine ⟨x46.2.1, (Option.some.inj h).symm, ?_⟩; exact ca_XDPl
                · rintro v338 ho; have ho := ho.symm; subst ho; intro _; replace h := hK43; obtain ⟨o52, h, hK53⟩ := ob1_ok h; refine awp_cut (α := Unit) (fun _ => mkS 180 [(3, .ptr 3 0 0 0), (7, .c (.int .i64 ((IntKind.i64.wrap a1).tmod ((a0.Ops.map cGOp).length : Int)))), (8, .sl 1 (z21.map cL_cF)), (10, .mp 65 0), (14, .ptr 14 0 0 0), (15, .c (.int .i64 v338)), (83, .sl 2 (a2.map cF)), (84, .c (.int .i64 ((a2.map cF).length : Int))), (85, .c (.int .i64 x35.2.1))] [(3, ⟨26, 4, true, [[.sl 1 (a0.Vars.map cI), .sl 1 (a0.Init.map cI), .sl 2 (a0.Goal.map cF), .sl 4 (a0.Ops.map cGOp)]]⟩), (14, ⟨40, 2, true, [[.c (.int .i64 y328.1), .c (.int .i64 y328.2)]]⟩), (65, mB kI vI x35.2.2)]) (fun v => o52 = (.inl v)) ?_ ?_
                  · refine aSq ?_; refine aRg ?_; intro _; refine spl h (fun c54 h => ?_) (fun c54 h => ?_)
                    · intro _; refine dr_XDPl ?_; refine aCd ?_; intro _; refine spl h (fun c55 h => ?_) (fun c55 h => ?_)
                      · refine aSq ?_; refine aRg ?_; intro _; refine dr_XDPl ?_; refine aRt ?_; have j56 := Option.some.inj h; subst j56; replace h := (osum_r hK53); have j57 := Option.some.inj h; subst j57; replace h := (osum_r hK39); have j58 := Option.some.inj h; subst j58; replace h := (osum_r hK34); intro _; obtain rfl := inj1 h; exact ca_XDPl
                      · refine aSk ?_; refine ⟨(), (Option.some.inj h).symm, ?_⟩; exact ca_XDPl
                    · intro _; refine dr_XDPl ?_; refine aCd ?_; intro _; refine litF ?_; refine aSk ?_; refine ⟨(), (Option.some.inj h).symm, ?_⟩; exact ca_XDPl
                  · rintro _ ho; have ho := ho.symm; subst ho; intro _; replace h := (osum_l hK53); refine aSq ?_; refine aRg ?_; intro _; refine dr_XDPl ?_; refine aCd ?_; intro _; refine spl h (fun c59 h => ?_) (fun c59 h => ?_)
                    · refine aSq ?_; refine aSq ?_; refine aRg ?_; intro _; refine ⟨_, lf_mapok (q := y328.1) 0 (kI_key Try.underlying3) kI_inj kI_is rfl (Nat.le_of_ble_eq_true rfl) rfl rfl rfl Try.underlying35 (tyTab_ok 3 _ rfl) (fun _ _ _ => .c _), ?_⟩; intro _; refine dr_XDPl ?_; refine aSq ?_; refine aRg ?_; intro _; refine spl h (fun c60 h => ?_) (fun c60 h => ?_)
                      · intro _; refine dr_XDPl ?_; refine aCd ?_; intro _; refine spl h (fun c61 h => ?_) (fun c61 h => ?_)
                        · refine aSq ?_; refine aRg ?_; intro _; refine dr_XDPl ?_; refine aRt ?_; have j62 := Option.some.inj h; subst j62; replace h := (osum_r hK39); have j63 := Option.some.inj h; subst j63; replace h := (osum_r hK34); intro _; obtain rfl := inj1 h; exact ca_XDPl
                        · refine aSk ?_; refine aRg ?_; intro _; refine ⟨_, lf_mapset (q := y328.1) (v := y328.2) (kI_key Try.underlying3) kI_inj kI_is rfl rfl rfl rfl rfl rfl Try.underlying35, ?_⟩; intro _; refine dr_XDPl ?_; refine ⟨(setM x35.2.2 y328.1 y328.2), (Option.some.inj h).symm, ?_⟩; exact ca_XDPl
                      · intro _; refine dr_XDPl ?_; refine aCd ?_; intro _; refine litF ?_; refine aSk ?_; refine aRg ?_; intro _; refine ⟨_, lf_mapset (q := y328.1) (v := y328.2) (kI_key Try.underlying3) kI_inj kI_is rfl rfl rfl rfl rfl rfl Try.underlying35, ?_⟩; intro _; refine dr_XDPl ?_; refine ⟨(setM x35.2.2 y328.1 y328.2), (Option.some.inj h).symm, ?_⟩; exact ca_XDPl
                    · refine aSk ?_; refine ⟨x35.2.2, (Option.some.inj h).symm, ?_⟩; exact ca_XDPl
              · rintro v325 ho; have ho := ho.symm; subst ho; intro _; replace h := (osum_l hK39); refine aRg ?_; intro _; refine dr_XDPl ?_; refine ⟨(k301, (IntKind.i64.wrap (x35.2.1 + 1)), v325), h, ltS m36, ?_⟩; exact ca_XDPl
            · refine aEx ?_; refine ⟨x35.2.2, (Option.some.inj h).symm, ?_⟩; exact ca_XDPl
        · rintro v196 ho; have ho := ho.symm; subst ho; intro _; replace h := (osum_l hK34); obtain ⟨o64, h, hK65⟩ := ob1_ok h; refine awp_cut (α := Unit) (fun _ => mkS 180 [(8, .sl 1 (z21.map cL_cF)), (10, .mp 65 0)] [(65, mB kI vI v196)]) (fun v => o64 = (.inl v)) ?_ ?_
          · refine aSq ?_; refine aRg ?_; intro _; refine spf h (fun c66 h => ?_) (fun c66 h => ?_)
            · intro _; obtain ⟨y354, w67, q68, h⟩ := ix_ok h; refine Exists.intro (cL_cF y354) (And.intro (map_at' w67) ?_); intro _; refine ⟨_, lf_maplen rfl (Nat.le_of_ble_eq_true rfl) rfl rfl Try.underlying35, ?_⟩; intro _; refine pr_XDPl ?_; refine dr_XDPl ?_; refine aCd ?_; intro _; refine spl h (fun c69 h => ?_) (fun c69 h => ?_)
              · refine aSq ?_; refine aRg ?_; intro _; refine dr_XDPl ?_; refine aRt ?_; have j70 := Option.some.inj h; subst j70; replace h := (osum_r hK65); intro _; obtain rfl := inj1 h; exact ca_XDPl
              · refine aSk ?_; refine ⟨(), (Option.some.inj h).symm, ?_⟩; exact ca_XDPl
            · intro _; refine dr_XDPl ?_; refine aCd ?_; intro _; refine litT ?_; refine aSq ?_; refine aRg ?_; intro _; refine dr_XDPl ?_; refine aRt ?_; have j71 := Option.some.inj h; subst j71; replace h := (osum_r hK65); intro _; obtain rfl := inj1 h; exact ca_XDPl
          · rintro _ ho; have ho := ho.symm; subst ho; intro _; replace h := (osum_l hK65); refine aSq ?_; refine aSq ?_; refine aRg ?_; intro _; obtain ⟨y355, w72, q73, h⟩ := ix_ok h; refine Exists.intro (cL_cF y355) (And.intro (map_at' w72) ?_); intro _; refine pr_XDPl ?_; refine dr_XDPl ?_; refine aBk ?_; refine awp_loop (α := Nat × Int) (fun x => mkS 180 [(10, .mp 65 0), (158, .sl 2 (y355.map cF)), (159, .c (.int .i64 ((y355.map cF).length : Int))), (160, .c (.int .i64 x.2))] [(65, mB kI vI v196)]) (fun x => M_l26_RegressPlain_L4 v196 y355 x.1 x.2 = some r1) (fun x => x.1) ((((y355.map cF).length : Int)).toNat + 1, 0) h ?_ ?_
            · exact ca_XDPl
            · intro x74 h; intro _; obtain ⟨k360, m75, h⟩ := succ_of (f := fun n => M_l26_RegressPlain_L4 v196 y355 n x74.2) rfl h; replace h : M_l26_RegressPlain_L4 v196 y355 (k360 + 1) x74.2 = some r1 := h; rw [M_l26_RegressPlain_L4] at h; refine aSq ?_; refine aRg ?_; intro _; refine dr_XDPl ?_; refine aSq ?_; refine aCd ?_; intro _; refine spl h (fun c76 h => ?_) (fun c76 h => ?_)
              · refine aSk ?_; refine aSq ?_; refine aBk ?_; refine aSq ?_; refine aRg ?_; intro _; obtain ⟨y361, w77, q78, h⟩ := ix_ok h; refine Exists.intro (cF y361) (And.intro (map_at' w77) ?_); intro _; refine pr_XDPl ?_; refine dr_XDPl ?_; refine aSq ?_; refine aRg ?_; intro _; refine ⟨_, lf_mapok (q := y361.1) 0 (kI_key Try.underlying3) kI_inj kI_is rfl (Nat.le_of_ble_eq_true rfl) rfl rfl rfl Try.underlying35 (tyTab_ok 3 _ rfl) (fun _ _ _ => .c _), ?_⟩; intro _; refine dr_XDPl ?_; refine aSq ?_; refine aRg ?_; intro _; refine spf h (fun c79 h => ?_) (fun c79 h => ?_)
                · intro _; refine dr_XDPl ?_; refine aCd ?_; intro _; refine spl h (fun c80 h => ?_) (fun c80 h => ?_)
                  · refine aSq ?_; refine aRg ?_; intro _; refine dr_XDPl ?_; refine aRt ?_; intro _; obtain rfl := inj1 h; exact ca_XDPl
                  · refine aSk ?_; refine aRg ?_; intro _; refine dr_XDPl ?_; refine ⟨(k360, (IntKind.i64.wrap (x74.2 + 1))), h, ltS m75, ?_⟩; exact ca_XDPl
                · intro _; refine dr_XDPl ?_; refine aCd ?_; intro _; refine litT ?_; refine aSq ?_; refine aRg ?_; intro _; refine dr_XDPl ?_; refine aRt ?_; intro _; obtain rfl := inj1 h; exact ca_XDPl
              · refine aEx ?_; refine aSq ?_; refine aRg ?_; intro _; refine dr_XDPl ?_; refine aRt ?_; intro _; obtain rfl := inj1 h; exact ca_XDPl
    · replace h := erM_no h; refine aRg ?_; intro _; refine dr_XDPl ?_; refine aCd ?_; intro _; refine litT ?_; refine aSq ?_; refine aRg ?_; intro _; refine dr_XDPl ?_; refine aRt ?_; intro _; obtain rfl := inj1 h; exact ca_XDPl
end Go.Proofs.Yteapjpgabdegnaa.Am
