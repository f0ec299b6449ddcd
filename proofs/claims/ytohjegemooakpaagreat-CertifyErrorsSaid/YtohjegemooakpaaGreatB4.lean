/- stratagemlaw32.CertifyErrors returns true for every input. No condition beyond the row's own. -/
import Derived.Test.YtohjegemooakpaaGreatB3
import Derived.Test.YtohjegemooakpaaGreatB2
import Derived.KernelRfl
import Derived.Test.YtohjegemooakpaaGreatB1
import Derived.Deep.Slices
import Derived.Deep.Fields
import Derived.ChangeSame
import Derived.SizedLaws
import Derived.Lib.SmallJoins
import Derived.Below
import Derived.OpenShut
import Derived.Carry
import Derived.Test.YtohjegemooakpaaGreatRows
import Derived.Deep.DeepHandedRow
import Derived.Lib.LaidTab
/- Range loops of the models as recursions. -/
namespace Go.Proofs.YtohjegemooakpaaGreat.Am
def M_task_conditions_L1_B (_ : GOp) (_y65 : GEffect) (_ : Int) : ((List (List Fact))) → (((List (List Fact))) → Option (List (List Fact))) → Option (List (List Fact)) := fun v63 rc => ixv _y65 (fun y65 =>
       grd ((v63.length + 1) * 24 ≤ 140737488355328) (rc ((v63 ++ [y65.When]))))
def M_task_conditions_L1_E (_ : GOp) : ((List (List Fact))) → Option (List (List Fact)) := fun v63 => some v63
theorem M_task_conditions_L1_eq (y57 : GOp) (v63 : List (List Fact)) (hl : y57.Effs.length < 9223372036854775807) : M_task_conditions_L1 y57 (((y57.Effs.map cGEffect).length : Int).toNat + 1) 0 v63 = Rg (M_task_conditions_L1_B y57) (M_task_conditions_L1_E y57) y57.Effs 0 v63 := rg_e1 (L := fun k i v63 => M_task_conditions_L1 y57 k i v63) hl (fun _ _ _ => rfl) v63
def M_task_conditions_L2_B (_ : GTask) (_y57 : GOp) (_ : Int) : ((List (List Fact))) → (((List (List Fact))) → Option (List (List Fact))) → Option (List (List Fact)) := fun v44 rc => ob1 (ixv _y57 (fun y57 =>
        grd ((v44.length + 1) * 24 ≤ 140737488355328) (M_task_conditions_L1 y57 ((((y57.Effs.map cGEffect).length : Int)).toNat + 1) 0 (v44 ++ [y57.Pre]))) : Option (List (List Fact)))
       (fun v55 => rc (v55))
def M_task_conditions_L2_E (_ : GTask) : ((List (List Fact))) → Option (List (List Fact)) := fun v44 => grd (v44.length ≤ 140737488355328) (some v44)
theorem M_task_conditions_L2_eq (a0 : GTask) (v44 : List (List Fact)) (hl : a0.Ops.length < 9223372036854775807) : M_task_conditions_L2 a0 (((a0.Ops.map cGOp).length : Int).toNat + 1) 0 v44 = Rg (M_task_conditions_L2_B a0) (M_task_conditions_L2_E a0) a0.Ops 0 v44 := rg_e2 (L := fun k i v44 => M_task_conditions_L2 a0 k i v44) hl (fun k n p y hy h1 h2 => by first | (simp only [M_task_conditions_L2, M_task_conditions_L2_B, List.length_map, decide_lt h1, sel, ix_at hy, ixv, h2]; done) | (simp only [List.length_map] at h1 hy; (simp only [M_task_conditions_L2, M_task_conditions_L2_B, List.length_map, decide_lt h1, sel, ix_at hy, ixv, h2]; done))) (fun k p => by simp only [M_task_conditions_L2, M_task_conditions_L2_E, List.length_map, decide_ge, sel]) v44
def M_s_IndexFunc_Fact_L1_B (_ : List (List Fact)) (a1 : (List Fact) → Option Bool) (_y8 : List Fact) (v6 : Int) : Unit → (Unit → Option (Int)) → Option (Int) := fun _ rc => ixv _y8 (fun y8 =>
       ob1 (a1 y8) (fun z9 =>
        sel z9
         (some v6)
         (rc ())))
def M_s_IndexFunc_Fact_L1_E (_ : List (List Fact)) (_ : (List Fact) → Option Bool) : Unit → Option (Int) := fun _ => some (-1)
theorem M_s_IndexFunc_Fact_L1_eq (a0 : List (List Fact)) (a1 : (List Fact) → Option Bool)  (hl : a0.length < 9223372036854775807) : M_s_IndexFunc_Fact_L1 a0 a1 (((a0.map cL_cF).length : Int).toNat + 1) 0 = Rg (M_s_IndexFunc_Fact_L1_B a0 a1) (M_s_IndexFunc_Fact_L1_E a0 a1) a0 0 () := rg_e1 (L := fun k i _ => M_s_IndexFunc_Fact_L1 a0 a1 k i) hl (fun _ _ _ => rfl) ()
def M_task_large_L1_B (_ : GTask) (_y8 : GOp) (_ : Int) : Unit → (Unit → Option (Bool)) → Option (Bool) := fun _ rc => ixv _y8 (fun y8 =>
       sel (decide (((y8.Effs.map cGEffect).length : Int) > 64))
        (some true)
        (rc ()))
def M_task_large_L1_E (a0 : GTask) : Unit → Option (Bool) := fun _ => ob1 (M_task_conditions a0) (fun z9 =>
       ob1 (M_s_ContainsFunc_Fact z9 M_task_large_1) (fun z10 =>
        some z10))
theorem M_task_large_L1_eq (a0 : GTask)  (hl : a0.Ops.length < 9223372036854775807) : M_task_large_L1 a0 (((a0.Ops.map cGOp).length : Int).toNat + 1) 0 = Rg (M_task_large_L1_B a0) (M_task_large_L1_E a0) a0.Ops 0 () := rg_e1 (L := fun k i _ => M_task_large_L1 a0 k i) hl (fun _ _ _ => rfl) ()
def M_task_Proper_L1_B (a0 : List Int) (_ : List Int) (_y8 : Int) (v6 : Int) : Unit → (Unit → Option (Bool)) → Option (Bool) := fun _ rc => ixv _y8 (fun y8 =>
       sel (decide (y8 < 0))
        (some false)
        (ix a0 v6 (fun y9 =>
          sel (decide (y8 ≥ y9))
           (some false)
           (rc ()))))
def M_task_Proper_L1_E (_ : List Int) (_ : List Int) : Unit → Option (Bool) := fun _ => some true
theorem M_task_Proper_L1_eq (a0 : List Int) (a1 : List Int)  (hl : a1.length < 9223372036854775807) : M_task_Proper_L1 a0 a1 (((a1.map cI).length : Int).toNat + 1) 0 = Rg (M_task_Proper_L1_B a0 a1) (M_task_Proper_L1_E a0 a1) a1 0 () := rg_e1 (L := fun k i _ => M_task_Proper_L1 a0 a1 k i) hl (fun _ _ _ => rfl) ()
def M_task_Facts_L1_B (a0 : List Int) (_ : List Fact) (_y10 : Fact) (_ : Int) : ((Int)) → (((Int)) → Option (Bool)) → Option (Bool) := fun v7 rc => ixv _y10 (fun y10 =>
       sel (decide (y10.1 ≤ v7))
        (some false)
        (sel (decide (y10.1 ≥ ((a0.map cI).length : Int)))
          (some false)
          (sel (decide (y10.2 < 0))
            (some false)
            (ix a0 y10.1 (fun y11 =>
              sel (decide (y10.2 ≥ y11))
               (some false)
               (rc (y10.1)))))))
def M_task_Facts_L1_E (_ : List Int) (_ : List Fact) : ((Int)) → Option (Bool) := fun _ => some true
theorem M_task_Facts_L1_eq (a0 : List Int) (a1 : List Fact) (v7 : Int) (hl : a1.length < 9223372036854775807) : M_task_Facts_L1 a0 a1 (((a1.map cF).length : Int).toNat + 1) v7 0 = Rg (M_task_Facts_L1_B a0 a1) (M_task_Facts_L1_E a0 a1) a1 0 v7 := rg_e1 (L := fun k i v7 => M_task_Facts_L1 a0 a1 k v7 i) hl (fun _ _ _ => rfl) v7
def M_task_named_L1_B (a0 : ByteArray) (v2 : Int) : Unit → (Unit → Option (Bool)) → Option (Bool) := fun _ rc => sel (decide ((byt a0 v2) < 32))
       (grd (0 ≤ v2) (grd (v2 < (a0.size : Int)) (some false)))
       (grd (0 ≤ v2) (grd (v2 < (a0.size : Int)) (sel (decide ((byt a0 v2) > 126))
         (some false)
         (rc ()))))
def M_task_named_L1_E (a0 : ByteArray) : Unit → Option (Bool) := fun _ => some (decide ((a0.size : Int) ≤ 256))
theorem M_task_named_L1_eq (a0 : ByteArray)  {m : Nat} (hm : (a0.size : Int) = (m : Int)) (hl : m < 9223372036854775807) : M_task_named_L1 a0 (((a0.size : Int)).toNat + 1) 0 = Rn (M_task_named_L1_B a0) (M_task_named_L1_E a0) m 0 () := rn_e (L := fun k i _ => M_task_named_L1 a0 k i) hm hl (fun _ _ _ => rfl) ()
def M_task_Check_L1_B (_ : GTask) (_y15 : Int) (_ : Int) : Unit → (Unit → Option (Unit ⊕ Er)) → Option (Unit ⊕ Er) := fun _ rc => ixv _y15 (fun y15 =>
       sel (decide (y15 < 1))
        (some (.inr (Er.no 1)))
        (sel (decide (y15 > 64))
          (some (.inr (Er.no 1)))
          (rc ())))
def M_task_Check_L1_E (_ : GTask) : Unit → Option (Unit ⊕ Er) := fun _ => some (.inl ())
theorem M_task_Check_L1_eq (a0 : GTask)  (hl : a0.Vars.length < 9223372036854775807) : M_task_Check_L1 a0 (((a0.Vars.map cI).length : Int).toNat + 1) 0 = Rg (M_task_Check_L1_B a0) (M_task_Check_L1_E a0) a0.Vars 0 () := rg_e1 (L := fun k i _ => M_task_Check_L1 a0 k i) hl (fun _ _ _ => rfl) ()
def M_task_Check_L2_B (_ : GTask) (_y29 : GOp) (_ : Int) : Unit → (Unit → Option (Unit ⊕ Er)) → Option (Unit ⊕ Er) := fun _ rc => ixv _y29 (fun y29 =>
       sel (decide (y29.Cost < 0))
        (some (.inr (Er.no 1)))
        (sel (decide (y29.Cost > 1048576))
          (some (.inr (Er.no 1)))
          (rc ())))
def M_task_Check_L2_E (_ : GTask) : Unit → Option (Unit ⊕ Er) := fun _ => some (.inl ())
theorem M_task_Check_L2_eq (a0 : GTask)  (hl : a0.Ops.length < 9223372036854775807) : M_task_Check_L2 a0 (((a0.Ops.map cGOp).length : Int).toNat + 1) 0 = Rg (M_task_Check_L2_B a0) (M_task_Check_L2_E a0) a0.Ops 0 () := rg_e1 (L := fun k i _ => M_task_Check_L2 a0 k i) hl (fun _ _ _ => rfl) ()
def M_task_Check_L3_B (a0 : GTask) (_ : List (List Fact)) (_y51 : List Fact) (_ : Int) : Unit → (Unit → Option (Unit ⊕ Er)) → Option (Unit ⊕ Er) := fun _ rc => ixv _y51 (fun y51 =>
       ob1 (M_task_Facts a0.Vars y51) (fun z52 =>
        sel (!z52)
         (some (.inr (Er.no 2)))
         (rc ())))
def M_task_Check_L3_E (_ : GTask) (_ : List (List Fact)) : Unit → Option (Unit ⊕ Er) := fun _ => some (.inl ())
theorem M_task_Check_L3_eq (a0 : GTask) (z43 : List (List Fact))  (hl : z43.length < 9223372036854775807) : M_task_Check_L3 a0 z43 (((z43.map cL_cF).length : Int).toNat + 1) 0 = Rg (M_task_Check_L3_B a0 z43) (M_task_Check_L3_E a0 z43) z43 0 () := rg_e1 (L := fun k i _ => M_task_Check_L3 a0 z43 k i) hl (fun _ _ _ => rfl) ()
def M_task_Check_L4_B (a0 : GTask) (_ : GOp) (_y191 : GEffect) (_ : Int) : Unit → (Unit → Option (Unit ⊕ Er)) → Option (Unit ⊕ Er) := fun _ rc => ixv _y191 (fun y191 =>
       ob1 (M_task_Facts a0.Vars [(y191.Var, y191.Val)]) (fun z192 =>
        sel (!z192)
         (some (.inr (Er.no 2)))
         (rc ())))
def M_task_Check_L4_E (_ : GTask) (_ : GOp) : Unit → Option (Unit ⊕ Er) := fun _ => some (.inl ())
theorem M_task_Check_L4_eq (a0 : GTask) (y183 : GOp)  (hl : y183.Effs.length < 9223372036854775807) : M_task_Check_L4 a0 y183 (((y183.Effs.map cGEffect).length : Int).toNat + 1) 0 = Rg (M_task_Check_L4_B a0 y183) (M_task_Check_L4_E a0 y183) y183.Effs 0 () := rg_e1 (L := fun k i _ => M_task_Check_L4 a0 y183 k i) hl (fun _ _ _ => rfl) ()
def M_task_Check_L5_B (a0 : GTask) (_y183 : GOp) (_ : Int) : Unit → (Unit → Option (Unit ⊕ Er)) → Option (Unit ⊕ Er) := fun _ rc => ob1 (ixv _y183 (fun y183 =>
        M_task_Check_L4 a0 y183 ((((y183.Effs.map cGEffect).length : Int)).toNat + 1) 0) : Option (Unit ⊕ Er))
       (osum
       (fun _ => rc ())
       (fun r181 => some (.inr r181)))
def M_task_Check_L5_E (_ : GTask) : Unit → Option (Unit ⊕ Er) := fun _ => some (.inl ())
theorem M_task_Check_L5_eq (a0 : GTask)  (hl : a0.Ops.length < 9223372036854775807) : M_task_Check_L5 a0 (((a0.Ops.map cGOp).length : Int).toNat + 1) 0 = Rg (M_task_Check_L5_B a0) (M_task_Check_L5_E a0) a0.Ops 0 () := rg_e2 (L := fun k i _ => M_task_Check_L5 a0 k i) hl (fun k n p y hy h1 h2 => by first | (simp only [M_task_Check_L5, M_task_Check_L5_B, List.length_map, decide_lt h1, sel, ix_at hy, ixv, h2]; done) | (simp only [List.length_map] at h1 hy; (simp only [M_task_Check_L5, M_task_Check_L5_B, List.length_map, decide_lt h1, sel, ix_at hy, ixv, h2]; done))) (fun k p => by simp only [M_task_Check_L5, M_task_Check_L5_E, List.length_map, decide_ge, sel]) ()
def M_task_Check_L6_B (_ : GTask) (_y200 : GOp) (_ : Int) : Unit → (Unit → Option (Er)) → Option (Er) := fun _ rc => ixv _y200 (fun y200 =>
       ob1 (M_task_named y200.Name) (fun z201 =>
        sel (!z201)
         (some (Er.no 8))
         (rc ())))
def M_task_Check_L6_E (_ : GTask) : Unit → Option (Er) := fun _ => some Er.nil
theorem M_task_Check_L6_eq (a0 : GTask)  (hl : a0.Ops.length < 9223372036854775807) : M_task_Check_L6 a0 (((a0.Ops.map cGOp).length : Int).toNat + 1) 0 = Rg (M_task_Check_L6_B a0) (M_task_Check_L6_E a0) a0.Ops 0 () := rg_e1 (L := fun k i _ => M_task_Check_L6 a0 k i) hl (fun _ _ _ => rfl) ()
def M_p_valid_L1_B (a0 : List Fact) (_y7 : Fact) (v5 : Int) : Unit → (Unit → Option (Bool)) → Option (Bool) := fun _ rc => ixv _y7 (fun y7 =>
       sel (decide (y7.1 < 0))
        (some false)
        (sel (decide (y7.2 < 0))
          (some false)
          (sel (decide (v5 > 0))
            (ix a0 (IntKind.i64.wrap (v5 - 1)) (fun y8 =>
              sel (decide (y8.1 ≥ y7.1))
               (some false)
               (rc ())))
            (rc ()))))
def M_p_valid_L1_E (_ : List Fact) : Unit → Option (Bool) := fun _ => some true
theorem M_p_valid_L1_eq (a0 : List Fact)  (hl : a0.length < 9223372036854775807) : M_p_valid_L1 a0 (((a0.map cF).length : Int).toNat + 1) 0 = Rg (M_p_valid_L1_B a0) (M_p_valid_L1_E a0) a0 0 () := rg_e1 (L := fun k i _ => M_p_valid_L1 a0 k i) hl (fun _ _ _ => rfl) ()
def M_p_find_L1_B (_ : List Fact) (a1 : Int) (_y6 : Fact) (_ : Int) : Unit → (Unit → Option (Int)) → Option (Int) := fun _ rc => ixv _y6 (fun y6 =>
       sel (y6.1 == a1)
        (some y6.2)
        (rc ()))
def M_p_find_L1_E (_ : List Fact) (_ : Int) : Unit → Option (Int) := fun _ => some (-1)
theorem M_p_find_L1_eq (a0 : List Fact) (a1 : Int)  (hl : a0.length < 9223372036854775807) : M_p_find_L1 a0 a1 (((a0.map cF).length : Int).toNat + 1) 0 = Rg (M_p_find_L1_B a0 a1) (M_p_find_L1_E a0 a1) a0 0 () := rg_e1 (L := fun k i _ => M_p_find_L1 a0 a1 k i) hl (fun _ _ _ => rfl) ()
def M_p_contains_L1_B (a0 : List Fact) (_ : List Fact) (_y8 : Fact) (_ : Int) : Unit → (Unit → Option (Bool)) → Option (Bool) := fun _ rc => ixv _y8 (fun y8 =>
       ob1 (M_p_find a0 y8.1) (fun z9 =>
        sel (z9 != y8.2)
         (some false)
         (rc ())))
def M_p_contains_L1_E (_ : List Fact) (_ : List Fact) : Unit → Option (Bool) := fun _ => some true
theorem M_p_contains_L1_eq (a0 : List Fact) (a1 : List Fact)  (hl : a1.length < 9223372036854775807) : M_p_contains_L1 a0 a1 (((a1.map cF).length : Int).toNat + 1) 0 = Rg (M_p_contains_L1_B a0 a1) (M_p_contains_L1_E a0 a1) a1 0 () := rg_e1 (L := fun k i _ => M_p_contains_L1 a0 a1 k i) hl (fun _ _ _ => rfl) ()
def M_p_Minimal_L1_B (_ : List (List Fact)) (v115 : Int) (y149 : List Fact) (_y174 : List Fact) (v172 : Int) : Unit → (Unit → Option (Bool)) → Option (Bool) := fun _ rc => ixv _y174 (fun y174 =>
       sel (v115 != v172)
        (ob1 (M_p_valid y174) (fun z175 =>
          sel z175
           (ob1 (M_p_contains y149 y174) (fun z176 =>
             sel z176
              (sel (decide (((y174.map cF).length : Int) < ((y149.map cF).length : Int)))
                (some false)
                (sel (decide (v172 < v115))
                  (some false)
                  (rc ())))
              (rc ())))
           (rc ())))
        (rc ()))
def M_p_Minimal_L1_E (_ : List (List Fact)) (_ : Int) (_ : List Fact) : Unit → Option (Bool) := fun _ => some true
theorem M_p_Minimal_L1_eq (a0 : List (List Fact)) (v115 : Int) (y149 : List Fact)  (hl : a0.length < 9223372036854775807) : M_p_Minimal_L1 a0 v115 y149 (((a0.map cL_cF).length : Int).toNat + 1) 0 = Rg (M_p_Minimal_L1_B a0 v115 y149) (M_p_Minimal_L1_E a0 v115 y149) a0 0 () := rg_e1 (L := fun k i _ => M_p_Minimal_L1 a0 v115 y149 k i) hl (fun _ _ _ => rfl) ()
def M_p_Minimal_L2_B (a0 : List (List Fact)) (_y149 : List Fact) (v115 : Int) : ((List (List Fact))) → (((List (List Fact))) → Option (List (List Fact))) → Option (List (List Fact)) := fun v116 rc => ob1 (ixv _y149 (fun y149 =>
        ob1 (M_p_valid y149) (fun z150 =>
         sel (!z150)
          (some v116)
          (ob1 (M_p_Minimal_L1 a0 v115 y149 ((((a0.map cL_cF).length : Int)).toNat + 1) 0 : Option (Bool))
            (fun v163 => sel v163
               (ob1 (M_cloneF y149) (fun z177 =>
                 grd ((v116.length + 1) * 24 ≤ 140737488355328) (grd (z177.length ≤ 140737488355328) (some (v116 ++ [z177])))))
               (some v116))))) : Option (List (List Fact)))
       (fun v147 => rc (v147))
def M_p_Minimal_L2_E (_ : List (List Fact)) : ((List (List Fact))) → Option (List (List Fact)) := fun v116 => some v116
def M_b_State_L1_B (a0 : List Int) (a1 : List Int) (_y10 : Int) (v8 : Int) : Unit → (Unit → Option (Bool)) → Option (Bool) := fun _ rc => ixv _y10 (fun y10 =>
       sel (decide (y10 < 0))
        (some false)
        (ix a1 v8 (fun y11 =>
          ix a0 v8 (fun y12 =>
           sel (decide (y11 ≥ y12))
            (some false)
            (rc ())))))
def M_b_State_L1_E (_ : List Int) (_ : List Int) : Unit → Option (Bool) := fun _ => some true
theorem M_b_State_L1_eq (a0 : List Int) (a1 : List Int)  (hl : a1.length < 9223372036854775807) : M_b_State_L1 a0 a1 (((a1.map cI).length : Int).toNat + 1) 0 = Rg (M_b_State_L1_B a0 a1) (M_b_State_L1_E a0 a1) a1 0 () := rg_e1 (L := fun k i _ => M_b_State_L1 a0 a1 k i) hl (fun _ _ _ => rfl) ()
def M_b_Proper_L1_B (a0 : List Int) (a1 : List Fact) (_y9 : Fact) (v7 : Int) : Unit → (Unit → Option (Bool)) → Option (Bool) := fun _ rc => ixv _y9 (fun y9 =>
       sel (decide (y9.1 < 0))
        (some false)
        (sel (decide (y9.1 ≥ ((a0.map cI).length : Int)))
          (some false)
          (sel (decide (y9.2 < 0))
            (some false)
            (ix a0 y9.1 (fun y10 =>
              sel (decide (y9.2 ≥ y10))
               (some false)
               (sel (decide (v7 > 0))
                 (ix a1 (IntKind.i64.wrap (v7 - 1)) (fun y11 =>
                   sel (decide (y11.1 ≥ y9.1))
                    (some false)
                    (rc ())))
                 (rc ())))))))
def M_b_Proper_L1_E (_ : List Int) (_ : List Fact) : Unit → Option (Bool) := fun _ => some true
theorem M_b_Proper_L1_eq (a0 : List Int) (a1 : List Fact)  (hl : a1.length < 9223372036854775807) : M_b_Proper_L1 a0 a1 (((a1.map cF).length : Int).toNat + 1) 0 = Rg (M_b_Proper_L1_B a0 a1) (M_b_Proper_L1_E a0 a1) a1 0 () := rg_e1 (L := fun k i _ => M_b_Proper_L1 a0 a1 k i) hl (fun _ _ _ => rfl) ()
end Go.Proofs.YtohjegemooakpaaGreat.Am
/- Plain laws of tasks: facts, states, operators; what Check and Good answer. -/
namespace Go.Proofs.YtohjegemooakpaaGreat.Am
open Go.RowKit
section
variable {α β : Type}
theorem ix_getD {l : List α} {i : Int} {d : α} {k : α → Option β} (h0 : 0 ≤ i) (h1 : i < l.length) : ix l i k = k (l.getD i.toNat d) := by
  obtain ⟨n, rfl⟩ : ∃ n : Nat, i = n := ⟨i.toNat, by omega⟩
  have hn : n < l.length := by omega
  rw [ix_at (List.getElem?_eq_getElem hn), Int.toNat_natCast]
  simp [hn]
end
/-- short lists -/
abbrev Sh {α : Type} (l : List α) : Prop := l.length ≤ 140737488355328
theorem Sh.lt {α : Type} {l : List α} (h : Sh l) : l.length < 9223372036854775807 := Nat.lt_of_le_of_lt h (by decide)
/-- proper facts -/
def propF (vars : List Int) : Int → List Fact → Bool
  | _, [] => true
  | last, y :: r => decide (last < y.1 ∧ y.1 < vars.length ∧ 0 ≤ y.2 ∧ y.2 < vars.getD y.1.toNat 0) && propF vars y.1 r
theorem facts_loop (vars : List Int) (l : List Fact) : ∀ (r : List Fact) (i last : Int), -1 ≤ last → Rg (M_task_Facts_L1_B vars l) (M_task_Facts_L1_E vars l) r i last = some (propF vars last r)
  | [], _, _, _ => rfl
  | y :: r, i, last, hl => by
    rw [Rg, propF]
    simp only [M_task_Facts_L1_B, ixv, sel_dec, List.length_map]
    by_cases h1 : y.1 ≤ last
    · rw [if_pos h1, decide_eq_false (by omega)]; rfl
    · rw [if_neg h1]
      by_cases h2 : y.1 ≥ vars.length
      · rw [if_pos h2, decide_eq_false (by omega)]; rfl
      · rw [if_neg h2]
        by_cases h3 : y.2 < 0
        · rw [if_pos h3, decide_eq_false (by omega)]; rfl
        · rw [if_neg h3, ix_getD (d := 0) (by omega) (by omega)]
          by_cases h4 : y.2 ≥ vars.getD y.1.toNat 0
          · rw [if_pos h4, decide_eq_false (by omega)]; rfl
          · rw [if_neg h4, decide_eq_true (by omega), facts_loop vars l r (i + 1) y.1 (by omega)]; rfl
theorem facts_eq (vars : List Int) (l : List Fact) (hl : Sh l) : M_task_Facts vars l = some (propF vars (-1) l) := by
  rw [M_task_Facts, M_task_Facts_L1_eq _ _ _ hl.lt]
  exact facts_loop vars l l 0 (-1) (by omega)
/-- the last variable of the facts ahead -/
theorem proper_loop (vars : List Int) (l : List Fact) (hs : Sh l) : ∀ (r : List Fact) (n : Nat) (last : Int), l.drop n = r → n ≤ l.length → -1 ≤ last → (n = 0 → last = -1) → (∀ m, n = m + 1 → ∃ x, l[m]? = some x ∧ x.1 = last) → Rg (M_b_Proper_L1_B vars l) (M_b_Proper_L1_E vars l) r n () = some (propF vars last r)
  | [], _, _, _, _, _, _, _ => rfl
  | y :: r, n, last, hd, hn, hl, h0, hp => by
    rw [Rg, propF]
    have hlt : n < l.length := by
      rcases Nat.lt_or_ge n l.length with h | h
      · exact h
      · rw [List.drop_eq_nil_of_le h] at hd; cases hd
    have hy : l[n]? = some y := by
      have := congrArg (·[0]?) hd
      simpa [List.getElem?_drop] using this
    have hd' : l.drop (n + 1) = r := by
      have := congrArg List.tail hd
      simpa using this
    have hrec := proper_loop vars l hs r (n + 1) y.1 hd' hlt
    have hih : 0 ≤ y.1 → Rg (M_b_Proper_L1_B vars l) (M_b_Proper_L1_E vars l) r ((n : Int) + 1) () = some (propF vars y.1 r) := fun h => hrec (by omega) (by omega) (fun m hm => ⟨y, by rw [show m = n by omega]; exact hy, rfl⟩)
    simp only [M_b_Proper_L1_B, ixv, sel_dec, List.length_map]
    by_cases h1 : y.1 < 0
    · rw [if_pos h1, decide_eq_false (by omega)]; rfl
    · rw [if_neg h1]
      by_cases h2 : y.1 ≥ vars.length
      · rw [if_pos h2, decide_eq_false (by omega)]; rfl
      · rw [if_neg h2]
        by_cases h3 : y.2 < 0
        · rw [if_pos h3, decide_eq_false (by omega)]; rfl
        · rw [if_neg h3, ix_getD (d := 0) (by omega) (by omega)]
          by_cases h4 : y.2 ≥ vars.getD y.1.toNat 0
          · rw [if_pos h4, decide_eq_false (by omega)]; rfl
          · rw [if_neg h4]
            cases n with
            | zero =>
              have := h0 rfl
              rw [if_neg (by omega), decide_eq_true (by omega)]
              exact hih (by omega)
            | succ m =>
              obtain ⟨x, hx, hxl⟩ := hp m rfl
              rw [if_pos (by omega), w64 (by omega) (by have := hs; unfold Sh at this; omega), show (((m + 1 : Nat) : Int) - 1) = (m : Int) by omega, ix_at hx]
              by_cases h5 : x.1 ≥ y.1
              · rw [if_pos h5, decide_eq_false (by omega)]; rfl
              · rw [if_neg h5, decide_eq_true (by omega)]
                exact hih (by omega)
theorem proper_eq (vars : List Int) (l : List Fact) (hl : Sh l) : M_b_Proper vars l = some (propF vars (-1) l) := by
  rw [M_b_Proper, M_b_Proper_L1_eq _ _ hl.lt]
  exact proper_loop vars l hl l 0 (-1) rfl (Nat.zero_le _) (by omega) (fun _ => rfl) (fun m hm => by omega)
/-- proper states -/
def stateF : List Int → List Int → Bool
  | [], [] => true
  | n :: r, x :: s => decide (0 ≤ x ∧ x < n) && stateF r s
  | _, _ => false
theorem stateF_len : ∀ {v s : List Int}, v.length ≠ s.length → stateF v s = false
  | [], [], h => absurd rfl h
  | [], _ :: _, _ => rfl
  | _ :: _, [], _ => rfl
  | n :: r, x :: s, h => by rw [stateF, stateF_len (by simpa using h), Bool.and_false]
theorem drop_cons {α : Type} {l r : List α} {n : Nat} {y : α} (h : l.drop n = y :: r) : l[n]? = some y ∧ l.drop (n + 1) = r ∧ n < l.length := by
  have hlt : n < l.length := by
    rcases Nat.lt_or_ge n l.length with h' | h'
    · exact h'
    · rw [List.drop_eq_nil_of_le h'] at h; cases h
  refine ⟨?_, ?_, hlt⟩
  · have := congrArg (·[0]?) h
    simpa [List.getElem?_drop] using this
  · have := congrArg List.tail h
    simpa using this
theorem tproper_loop (vars l : List Int) : ∀ (r s : List Int) (n : Nat), l.drop n = r → vars.drop n = s → r.length = s.length → Rg (M_task_Proper_L1_B vars l) (M_task_Proper_L1_E vars l) r n () = some (stateF s r)
  | [], [], _, _, _, _ => rfl
  | [], _ :: _, _, _, _, h => by simp at h
  | _ :: _, [], _, _, _, h => by simp at h
  | y :: r, v :: s, n, h1, h2, h3 => by
    obtain ⟨a1, a2, _⟩ := drop_cons h1
    obtain ⟨b1, b2, _⟩ := drop_cons h2
    have ih := tproper_loop vars l r s (n + 1) a2 b2 (by simpa using h3)
    rw [Rg, stateF]
    simp only [M_task_Proper_L1_B, ixv, sel_dec, ix_at b1]
    by_cases c1 : y < 0
    · rw [if_pos c1, decide_eq_false (by omega)]; rfl
    · rw [if_neg c1]
      by_cases c2 : y ≥ v
      · rw [if_pos c2, decide_eq_false (by omega)]; rfl
      · rw [if_neg c2, decide_eq_true (by omega)]
        exact ih
theorem state_loop (vars l : List Int) : ∀ (r s : List Int) (n : Nat), l.drop n = r → vars.drop n = s → r.length = s.length → Rg (M_b_State_L1_B vars l) (M_b_State_L1_E vars l) r n () = some (stateF s r)
  | [], [], _, _, _, _ => rfl
  | [], _ :: _, _, _, _, h => by simp at h
  | _ :: _, [], _, _, _, h => by simp at h
  | y :: r, v :: s, n, h1, h2, h3 => by
    obtain ⟨a1, a2, _⟩ := drop_cons h1
    obtain ⟨b1, b2, _⟩ := drop_cons h2
    have ih := state_loop vars l r s (n + 1) a2 b2 (by simpa using h3)
    rw [Rg, stateF]
    simp only [M_b_State_L1_B, ixv, sel_dec, ix_at b1, ix_at a1]
    by_cases c1 : y < 0
    · rw [if_pos c1, decide_eq_false (by omega)]; rfl
    · rw [if_neg c1]
      by_cases c2 : y ≥ v
      · rw [if_pos c2, decide_eq_false (by omega)]; rfl
      · rw [if_neg c2, decide_eq_true (by omega)]
        exact ih
theorem bne_len (a b : Nat) : ((a : Int) != (b : Int)) = decide (a ≠ b) := by
  by_cases h : a = b
  · subst h; simp
  · have : ¬ ((a : Int) = (b : Int)) := by omega
    simp [h, this, bne]
theorem tproper_eq (vars l : List Int) (hl : Sh l) : M_task_Proper vars l = some (stateF vars l) := by
  rw [M_task_Proper, M_task_Proper_L1_eq _ _ hl.lt, List.length_map, List.length_map, bne_len, sel_dec]
  split
  · rename_i h; rw [stateF_len (fun e => h e.symm)]
  · rename_i h; exact tproper_loop vars l l vars 0 rfl rfl (by omega)
theorem state_eq (vars l : List Int) (hl : Sh l) : M_b_State vars l = some (stateF vars l) := by
  rw [M_b_State, M_b_State_L1_eq _ _ hl.lt, List.length_map, List.length_map, bne_len, sel_dec]
  split
  · rename_i h; rw [stateF_len (fun e => h e.symm)]
  · rename_i h; exact state_loop vars l l vars 0 rfl rfl (by omega)
/-- a loop that looks at each element -/
theorem rg_all {α γ : Type} {B : α → Int → Unit → (Unit → Option γ) → Option γ} {E : Unit → Option γ} {p : α → Bool} {c : Option γ} : ∀ {l : List α} {i : Int}, (∀ y ∈ l, ∀ i rc, B y i () rc = if p y = true then rc () else c) → Rg B E l i () = if l.all p = true then E () else c
  | [], _, _ => rfl
  | y :: r, i, h => by
    rw [Rg, h y (by simp), List.all_cons]
    cases hp : p y
    · simp
    · simp only [Bool.true_and, if_true]
      exact rg_all (fun z hz => h z (by simp [hz]))
theorem rn_all {γ : Type} {B : Int → Unit → (Unit → Option γ) → Option γ} {E : Unit → Option γ} {p : Nat → Bool} {c : Option γ} : ∀ {m n : Nat}, (∀ k, n ≤ k → k < n + m → ∀ rc, B k () rc = if p k = true then rc () else c) → Rn B E m n () = if (List.range' n m).all p = true then E () else c
  | 0, _, _ => rfl
  | m + 1, n, h => by
    rw [Rn, h n (Nat.le_refl _) (by omega), List.range'_succ, List.all_cons]
    cases hp : p n
    · simp
    · simp only [Bool.true_and, if_true]
      have := rn_all (m := m) (n := n + 1) (E := E) (fun k h1 h2 => h k (by omega) (by omega))
      exact this
def charF (c : UInt8) : Bool := decide (32 ≤ c.toNat ∧ c.toNat ≤ 126)
theorem byt_at (s : ByteArray) (k : Nat) (h : k < s.size) : ∃ c, (bl s)[k]? = some c ∧ byt s (k : Int) = (c.toNat : Int) := by
  have h' : k < (bl s).length := by rw [bl_len]; exact h
  exact ⟨(bl s)[k], List.getElem?_eq_getElem h', byt_bl s k h⟩
theorem range_bytes (s : ByteArray) (p : UInt8 → Bool) : (List.range' 0 s.size).all (fun k => match (bl s)[k]? with | some c => p c | none => false) = (bl s).all p := by
  rw [Bool.eq_iff_iff, List.all_eq_true, List.all_eq_true]
  constructor
  · intro h c hc
    obtain ⟨k, hk⟩ := List.getElem?_of_mem hc
    have hlt : k < s.size := by rw [← bl_len]; exact (List.getElem?_eq_some_iff.1 hk).1
    have := h k (by simp; exact hlt)
    rw [hk] at this
    exact this
  · intro h k hk
    have hlt : k < (bl s).length := by rw [bl_len]; simpa using hk
    rw [List.getElem?_eq_getElem hlt]
    exact h _ (List.getElem_mem hlt)
theorem named_eq (s : ByteArray) (hs : s.size ≤ 9223372036854775806) : M_task_named s = some ((bl s).all charF && decide (s.size ≤ 256)) := by
  rw [M_task_named, M_task_named_L1_eq _ rfl (by omega)]
  have := rn_all (γ := Bool) (B := M_task_named_L1_B s) (E := M_task_named_L1_E s) (p := fun k => match (bl s)[k]? with | some c => charF c | none => false) (c := some false) (m := s.size) (n := 0) (fun k _ hk rc => by
    obtain ⟨c, h1, h2⟩ := byt_at s k (by omega)
    have g1 : (0 : Int) ≤ (k : Int) := by omega
    have g2 : (k : Int) < (s.size : Int) := by omega
    simp only [M_task_named_L1_B, h1, h2, sel_dec, grd_t g1, grd_t g2]
    unfold charF
    by_cases c1 : (c.toNat : Int) < 32
    · rw [if_pos c1, if_neg (by simp; omega)]
    · rw [if_neg c1]
      by_cases c2 : (c.toNat : Int) > 126
      · rw [if_pos c2, if_neg (by simp; omega)]
      · rw [if_neg c2, if_pos (by simp; omega)])
  rw [show ((0 : Int)) = ((0 : Nat) : Int) from rfl, this, range_bytes]
  cases (bl s).all charF
  · rfl
  · by_cases h : s.size ≤ 256 <;> simp [M_task_named_L1_E, h] <;> omega
/-- what is asked of an operator -/
def effF (vars : List Int) (e : GEffect) : Bool := propF vars (-1) e.When && propF vars (-1) [(e.Var, e.Val)]
/-- sizes that the form of the statement grants -/
structure ShO (o : GOp) : Prop where
  name : o.Name.size ≤ 9223372036854775806
  pre : Sh o.Pre
  effs : Sh o.Effs
  when : ∀ e ∈ o.Effs, Sh e.When
structure ShT (t : GTask) : Prop where
  vars : Sh t.Vars
  init : Sh t.Init
  goal : Sh t.Goal
  ops : Sh t.Ops
  op : ∀ o ∈ t.Ops, ShO o
end Go.Proofs.YtohjegemooakpaaGreat.Am
/- Plain laws of tasks: what task.Check answers. -/
namespace Go.Proofs.YtohjegemooakpaaGreat.Am
open Go.RowKit
/-- a loop that looks for an element -/
theorem idx_eq {l : List (List Fact)} {f : List Fact → Option Bool} {p : List Fact → Bool} (hl : Sh l) (h : ∀ y ∈ l, f y = some (p y)) : ∃ z, M_s_IndexFunc_Fact l f = some z ∧ (0 ≤ z ↔ l.any p = true) := by
  rw [M_s_IndexFunc_Fact, M_s_IndexFunc_Fact_L1_eq _ _ hl.lt]
  have key : ∀ (r : List (List Fact)) (n : Nat), (∀ y ∈ r, f y = some (p y)) → ∃ z, Rg (M_s_IndexFunc_Fact_L1_B l f) (M_s_IndexFunc_Fact_L1_E l f) r n () = some z ∧ (0 ≤ z ↔ r.any p = true) := by
    intro r
    induction r with
    | nil => intro n _; exact ⟨-1, rfl, by simp⟩
    | cons y r ih =>
      intro n hr
      rw [Rg]
      simp only [M_s_IndexFunc_Fact_L1_B, ixv, hr y (by simp), ob1_some]
      cases hp : p y
      · obtain ⟨z, h1, h2⟩ := ih (n + 1) (fun w hw => hr w (by simp [hw]))
        exact ⟨z, h1, by rw [h2, List.any_cons, hp, Bool.false_or]⟩
      · exact ⟨n, rfl, by simp [hp]⟩
  exact key l 0 h
theorem containsFunc_eq {l : List (List Fact)} {f : List Fact → Option Bool} {p : List Fact → Bool} (hl : Sh l) (h : ∀ y ∈ l, f y = some (p y)) : M_s_ContainsFunc_Fact l f = some (l.any p) := by
  obtain ⟨z, h1, h2⟩ := idx_eq hl h
  rw [M_s_ContainsFunc_Fact, h1, ob1_some]
  congr 1
  rw [Bool.eq_iff_iff, decide_eq_true_iff, ge_iff_le, h2]
/-- all conditions of a task -/
def condsO (o : GOp) : List (List Fact) := o.Pre :: o.Effs.map (·.When)
def condsF (t : GTask) : List (List Fact) := t.Goal :: t.Ops.flatMap condsO
theorem conds1 (o : GOp) : ∀ (r : List GEffect) (i : Int) (v : List (List Fact)), v.length + r.length ≤ 1000000 → Rg (M_task_conditions_L1_B o) (M_task_conditions_L1_E o) r i v = some (v ++ r.map (·.When))
  | [], _, v, _ => by simp [Rg, M_task_conditions_L1_E]
  | e :: r, i, v, h => by
    simp only [List.length_cons] at h
    rw [Rg]
    simp only [M_task_conditions_L1_B, ixv, grd_t (show (v.length + 1) * 24 ≤ 140737488355328 by omega)]
    rw [conds1 o r (i + 1) (v ++ [e.When]) (by simp; omega)]
    simp
theorem conds2 (t : GTask) : ∀ (r : List GOp) (i : Int) (v : List (List Fact)), (∀ o ∈ r, o.Effs.length ≤ 64) → v.length + r.length * 65 ≤ 1000000 → Rg (M_task_conditions_L2_B t) (M_task_conditions_L2_E t) r i v = some (v ++ r.flatMap condsO)
  | [], _, v, _, h => by
    simp only [List.length_nil] at h
    simp [Rg, M_task_conditions_L2_E, grd_t (show v.length ≤ 140737488355328 by omega)]
  | o :: r, i, v, hr, h => by
    simp only [List.length_cons] at h
    have ho := hr o (by simp)
    rw [Rg]
    simp only [M_task_conditions_L2_B, ixv, grd_t (show (v.length + 1) * 24 ≤ 140737488355328 by omega)]
    rw [M_task_conditions_L1_eq o _ (by omega), conds1 o o.Effs 0 (v ++ [o.Pre]) (by simp; omega), ob1_some, conds2 t r (i + 1) _ (fun q hq => hr q (by simp [hq])) (by simp; omega)]
    simp [condsO]
theorem conds_eq (t : GTask) (h1 : t.Ops.length ≤ 4096) (h2 : ∀ o ∈ t.Ops, o.Effs.length ≤ 64) : M_task_conditions t = some (condsF t) := by
  rw [M_task_conditions, M_task_conditions_L2_eq _ _ (by omega), conds2 t t.Ops 0 [t.Goal] h2 (by simp; omega)]
  rfl
theorem flat_len : ∀ (r : List GOp), (∀ o ∈ r, o.Effs.length ≤ 64) → (r.flatMap condsO).length ≤ r.length * 65
  | [], _ => by simp
  | o :: r, h => by
    have h1 := flat_len r (fun q hq => h q (by simp [hq]))
    have h2 := h o (by simp)
    have h3 : (condsO o).length = o.Effs.length + 1 := by simp [condsO]
    rw [List.flatMap_cons, List.length_append, List.length_cons]
    omega
theorem conds_len (t : GTask) (h1 : t.Ops.length ≤ 4096) (h2 : ∀ o ∈ t.Ops, o.Effs.length ≤ 64) : (condsF t).length ≤ 300000 := by
  have := flat_len t.Ops h2
  rw [condsF, List.length_cons]
  omega
/-- too much of something -/
def largeF (t : GTask) : Bool := decide (t.Vars.length > 64) || (decide (t.Ops.length > 4096) || (t.Ops.any (fun o => decide (o.Effs.length > 64)) || (condsF t).any (fun l => decide (l.length > 64))))
theorem large_eq (t : GTask) (ht : ShT t) : M_task_large t = some (largeF t) := by
  rw [M_task_large]
  unfold largeF
  simp only [sel_dec, List.length_map]
  by_cases c1 : (t.Vars.length : Int) > 64
  · rw [if_pos c1, decide_eq_true (by omega)]; rfl
  · rw [if_neg c1, decide_eq_false (by omega)]
    by_cases c2 : (t.Ops.length : Int) > 4096
    · rw [if_pos c2, decide_eq_true (p := t.Ops.length > 4096) (by omega)]; rfl
    · rw [if_neg c2, decide_eq_false (p := t.Ops.length > 4096) (by omega), ob1_some, osum_inl]
      have e := M_task_large_L1_eq t ht.ops.lt
      rw [List.length_map] at e
      rw [e]
      simp only [Bool.false_or]
      by_cases c3 : ∃ o ∈ t.Ops, o.Effs.length > 64
      · have : (t.Ops.any (fun o => decide (o.Effs.length > 64))) = true := by
          rw [List.any_eq_true]
          obtain ⟨o, h1, h2⟩ := c3
          exact ⟨o, h1, by simpa using h2⟩
        rw [this, Bool.true_or, rg_all (p := fun o => decide (o.Effs.length ≤ 64)) (c := some true) (fun o _ i rc => by
          simp only [M_task_large_L1_B, ixv, sel_dec, List.length_map]
          by_cases c : (o.Effs.length : Int) > 64
          · rw [if_pos c, if_neg (by simp; omega)]
          · rw [if_neg c, if_pos (by simp; omega)]), if_neg]
        rw [List.all_eq_true]
        intro h
        obtain ⟨o, h1, h2⟩ := c3
        have := h o h1
        simp at this
        omega
      · have hall : ∀ o ∈ t.Ops, o.Effs.length ≤ 64 := fun o ho => by
          rcases Nat.lt_or_ge 64 o.Effs.length with h | h
          · exact absurd ⟨o, ho, h⟩ c3
          · exact h
        have : (t.Ops.any (fun o => decide (o.Effs.length > 64))) = false := by
          rw [List.any_eq_false]
          intro o ho
          have := hall o ho
          simp; omega
        rw [this, Bool.false_or, rg_all (p := fun o => decide (o.Effs.length ≤ 64)) (c := some true) (fun o _ i rc => by
          simp only [M_task_large_L1_B, ixv, sel_dec, List.length_map]
          by_cases c : (o.Effs.length : Int) > 64
          · rw [if_pos c, if_neg (by simp; omega)]
          · rw [if_neg c, if_pos (by simp; omega)]), if_pos (by rw [List.all_eq_true]; intro o ho; have := hall o ho; simpa using this)]
        have hc := conds_len t (by omega) hall
        rw [M_task_large_L1_E, conds_eq t (by omega) hall, ob1_some, containsFunc_eq (p := fun l => decide (l.length > 64)) (by unfold Sh; omega) (fun y _ => by
          rw [M_task_large_1, List.length_map]
          congr 1
          rw [Bool.eq_iff_iff, decide_eq_true_iff, decide_eq_true_iff]
          omega)]
        rfl
/-- the error of a task -/
def checkF (t : GTask) : Er :=
  if largeF t = true then .no 5
  else if t.Vars.all (fun n => decide (1 ≤ n ∧ n ≤ 64)) = true then
    if t.Ops.all (fun o => decide (0 ≤ o.Cost ∧ o.Cost ≤ 1048576)) = true then
      if (stateF t.Vars t.Init && ((condsF t).all (propF t.Vars (-1)) && t.Ops.all (fun o => o.Effs.all (fun e => propF t.Vars (-1) [(e.Var, e.Val)])))) = true then
        if t.Ops.all (fun o => (bl o.Name).all charF && decide (o.Name.size ≤ 256)) = true then .nil else .no 8
      else .no 2
    else .no 1
  else .no 1
theorem notlarge {t : GTask} (h : largeF t = false) : t.Vars.length ≤ 64 ∧ t.Ops.length ≤ 4096 ∧ (∀ o ∈ t.Ops, o.Effs.length ≤ 64) ∧ ∀ l ∈ condsF t, l.length ≤ 64 := by
  unfold largeF at h
  simp only [Bool.or_eq_false_iff, decide_eq_false_iff_not, List.any_eq_false, decide_eq_true_iff] at h
  obtain ⟨h1, h2, h3, h4⟩ := h
  exact ⟨by omega, by omega, fun o ho => by have := h3 o ho; omega, fun l hl => by have := h4 l hl; omega⟩
theorem conds_sh {t : GTask} (ht : ShT t) : ∀ l ∈ condsF t, Sh l := by
  intro l hl
  simp only [condsF, List.mem_cons, List.mem_flatMap, condsO, List.mem_map] at hl
  rcases hl with rfl | ⟨o, ho, rfl | ⟨e, he, rfl⟩⟩
  · exact ht.goal
  · exact (ht.op o ho).pre
  · exact (ht.op o ho).when e he
theorem check_eq (t : GTask) (ht : ShT t) : M_task_Check t = some (checkF t) := by
  have e1 : M_task_Check_L1 t ((((t.Vars.map cI).length : Int)).toNat + 1) 0 = if t.Vars.all (fun n => decide (1 ≤ n ∧ n ≤ 64)) = true then some (.inl ()) else some (.inr (Er.no 1)) := by
    rw [M_task_Check_L1_eq _ ht.vars.lt, rg_all (p := fun n => decide (1 ≤ n ∧ n ≤ 64)) (c := some (.inr (Er.no 1))) (fun n _ i rc => by
      simp only [M_task_Check_L1_B, ixv, sel_dec]
      by_cases c1 : n < 1
      · rw [if_pos c1, if_neg (by simp; omega)]
      · rw [if_neg c1]
        by_cases c2 : n > 64
        · rw [if_pos c2, if_neg (by simp; omega)]
        · rw [if_neg c2, if_pos (by simp; omega)])]
    rfl
  have e2 : M_task_Check_L2 t ((((t.Ops.map cGOp).length : Int)).toNat + 1) 0 = if t.Ops.all (fun o => decide (0 ≤ o.Cost ∧ o.Cost ≤ 1048576)) = true then some (.inl ()) else some (.inr (Er.no 1)) := by
    rw [M_task_Check_L2_eq _ ht.ops.lt, rg_all (p := fun o => decide (0 ≤ o.Cost ∧ o.Cost ≤ 1048576)) (c := some (.inr (Er.no 1))) (fun o _ i rc => by
      simp only [M_task_Check_L2_B, ixv, sel_dec]
      by_cases c1 : o.Cost < 0
      · rw [if_pos c1, if_neg (by simp; omega)]
      · rw [if_neg c1]
        by_cases c2 : o.Cost > 1048576
        · rw [if_pos c2, if_neg (by simp; omega)]
        · rw [if_neg c2, if_pos (by simp; omega)])]
    rfl
  have e3 : ∀ z : List (List Fact), Sh z → (∀ l ∈ z, Sh l) → M_task_Check_L3 t z ((((z.map cL_cF).length : Int)).toNat + 1) 0 = if z.all (propF t.Vars (-1)) = true then some (.inl ()) else some (.inr (Er.no 2)) := fun z hz hz2 => by
    rw [M_task_Check_L3_eq _ _ hz.lt, rg_all (p := propF t.Vars (-1)) (c := some (.inr (Er.no 2))) (fun l hl i rc => by
      simp only [M_task_Check_L3_B, ixv, facts_eq t.Vars l (hz2 l hl), ob1_some]
      cases propF t.Vars (-1) l <;> rfl)]
    rfl
  have e4 : ∀ o ∈ t.Ops, M_task_Check_L4 t o ((((o.Effs.map cGEffect).length : Int)).toNat + 1) 0 = if o.Effs.all (fun e => propF t.Vars (-1) [(e.Var, e.Val)]) = true then some (.inl ()) else some (.inr (Er.no 2)) := fun o ho => by
    rw [M_task_Check_L4_eq _ _ (ht.op o ho).effs.lt, rg_all (p := fun e => propF t.Vars (-1) [(e.Var, e.Val)]) (c := some (.inr (Er.no 2))) (fun e _ i rc => by
      simp only [M_task_Check_L4_B, ixv, facts_eq t.Vars [(e.Var, e.Val)] (by simp [Sh]), ob1_some]
      cases propF t.Vars (-1) [(e.Var, e.Val)] <;> rfl)]
    rfl
  have e5 : M_task_Check_L5 t ((((t.Ops.map cGOp).length : Int)).toNat + 1) 0 = if t.Ops.all (fun o => o.Effs.all (fun e => propF t.Vars (-1) [(e.Var, e.Val)])) = true then some (.inl ()) else some (.inr (Er.no 2)) := by
    rw [M_task_Check_L5_eq _ ht.ops.lt, rg_all (p := fun o => o.Effs.all (fun e => propF t.Vars (-1) [(e.Var, e.Val)])) (c := some (.inr (Er.no 2))) (fun o ho i rc => by
      simp only [M_task_Check_L5_B, ixv, e4 o ho]
      split <;> rfl)]
    rfl
  have e6 : M_task_Check_L6 t ((((t.Ops.map cGOp).length : Int)).toNat + 1) 0 = if t.Ops.all (fun o => (bl o.Name).all charF && decide (o.Name.size ≤ 256)) = true then some .nil else some (Er.no 8) := by
    rw [M_task_Check_L6_eq _ ht.ops.lt, rg_all (p := fun o => (bl o.Name).all charF && decide (o.Name.size ≤ 256)) (c := some (Er.no 8)) (fun o ho i rc => by
      have := (ht.op o ho).name
      simp only [M_task_Check_L6_B, ixv, named_eq o.Name (by omega), ob1_some]
      cases (bl o.Name).all charF && decide (o.Name.size ≤ 256) <;> rfl)]
    rfl
  rw [M_task_Check, large_eq t ht, ob1_some, e1, e2, e5, e6, tproper_eq _ _ ht.init]
  unfold checkF
  cases hlg : largeF t
  · obtain ⟨l1, l2, l3, l4⟩ := notlarge hlg
    have hc := conds_len t l2 l3
    simp only [conds_eq t l2 l3, ob1_some, e3 (condsF t) (by unfold Sh; omega) (conds_sh ht), sel, Bool.false_eq_true, if_false]
    cases t.Vars.all (fun n => decide (1 ≤ n ∧ n ≤ 64))
    · rfl
    · cases t.Ops.all (fun o => decide (0 ≤ o.Cost ∧ o.Cost ≤ 1048576))
      · rfl
      · cases stateF t.Vars t.Init
        · rfl
        · cases (condsF t).all (propF t.Vars (-1))
          · rfl
          · cases t.Ops.all (fun o => o.Effs.all (fun e => propF t.Vars (-1) [(e.Var, e.Val)]))
            · rfl
            · cases t.Ops.all (fun o => (bl o.Name).all charF && decide (o.Name.size ≤ 256)) <;> rfl
  · rfl
theorem propF_len (vars : List Int) : ∀ (l : List Fact) (last : Int), propF vars last l = true → last < vars.length → (l.length : Int) + last < vars.length
  | [], _, _, h => by simpa using h
  | y :: r, last, h, hl => by
    rw [propF, Bool.and_eq_true, decide_eq_true_iff] at h
    have := propF_len vars r y.1 h.2 h.1.2.1
    simp only [List.length_cons]
    omega
theorem propF_len' {vars : List Int} {l : List Fact} (h : propF vars (-1) l = true) : l.length ≤ vars.length := by
  have := propF_len vars l (-1) h (by omega)
  omega
end Go.Proofs.YtohjegemooakpaaGreat.Am
/- Plain laws of lists of facts: ascending; sorted, each once; partial.valid, Make, Join. -/
namespace Go.Proofs.YtohjegemooakpaaGreat.Am
open Go.RowKit
def Asc (l : List Fact) : Prop := l.Pairwise fun a b => a.1 < b.1
def Nonneg (l : List Fact) : Prop := ∀ x ∈ l, 0 ≤ x.1 ∧ 0 ≤ x.2
/-- a partial state -/
def vF : Int → List Fact → Bool
  | _, [] => true
  | last, y :: r => decide (last < y.1 ∧ 0 ≤ y.2) && vF y.1 r
theorem valid_loop (l : List Fact) (hs : Sh l) : ∀ (r : List Fact) (n : Nat) (last : Int), l.drop n = r → n ≤ l.length → -1 ≤ last → (n = 0 → last = -1) → (∀ m, n = m + 1 → ∃ x, l[m]? = some x ∧ x.1 = last) → Rg (M_p_valid_L1_B l) (M_p_valid_L1_E l) r n () = some (vF last r)
  | [], _, _, _, _, _, _, _ => rfl
  | y :: r, n, last, hd, hn, hl, h0, hp => by
    rw [Rg, vF]
    obtain ⟨hy, hd', hlt⟩ := drop_cons hd
    have hih : 0 ≤ y.1 → Rg (M_p_valid_L1_B l) (M_p_valid_L1_E l) r ((n : Int) + 1) () = some (vF y.1 r) := fun h => valid_loop l hs r (n + 1) y.1 hd' hlt (by omega) (by omega) (fun m hm => ⟨y, by rw [show m = n by omega]; exact hy, rfl⟩)
    simp only [M_p_valid_L1_B, ixv, sel_dec]
    by_cases h1 : y.1 < 0
    · rw [if_pos h1, decide_eq_false (by omega)]; rfl
    · rw [if_neg h1]
      by_cases h3 : y.2 < 0
      · rw [if_pos h3, decide_eq_false (by omega)]; rfl
      · rw [if_neg h3]
        cases n with
        | zero =>
          have := h0 rfl
          rw [if_neg (by omega), decide_eq_true (by omega)]
          exact hih (by omega)
        | succ m =>
          obtain ⟨x, hx, hxl⟩ := hp m rfl
          rw [if_pos (by omega), w64 (by omega) (by have := hs; unfold Sh at this; omega), show (((m + 1 : Nat) : Int) - 1) = (m : Int) by omega, ix_at hx]
          by_cases h5 : x.1 ≥ y.1
          · rw [if_pos h5, decide_eq_false (by omega)]; rfl
          · rw [if_neg h5, decide_eq_true (by omega)]
            exact hih (by omega)
theorem valid_eq (l : List Fact) (hl : Sh l) : M_p_valid l = some (vF (-1) l) := by
  rw [M_p_valid, M_p_valid_L1_eq _ hl.lt]
  exact valid_loop l hl l 0 (-1) rfl (Nat.zero_le _) (by omega) (fun _ => rfl) (fun m hm => by omega)
theorem vF_iff : ∀ (l : List Fact) (last : Int), vF last l = true ↔ (∀ x ∈ l, last < x.1 ∧ 0 ≤ x.2) ∧ Asc l
  | [], last => by simp [vF, Asc]
  | y :: r, last => by
    rw [vF, Bool.and_eq_true, decide_eq_true_iff, vF_iff r y.1]
    unfold Asc
    rw [List.pairwise_cons]
    constructor
    · rintro ⟨h1, h2, h3⟩
      refine ⟨fun x hx => ?_, fun x hx => (h2 x hx).1, h3⟩
      rcases List.mem_cons.1 hx with rfl | hx
      · exact h1
      · have := h2 x hx; omega
    · rintro ⟨h1, h2, h3⟩
      exact ⟨h1 y (by simp), fun x hx => ⟨h2 x hx, (h1 x (by simp [hx])).2⟩, h3⟩
theorem vF_iff' (l : List Fact) : vF (-1) l = true ↔ Nonneg l ∧ Asc l := by
  rw [vF_iff]
  constructor
  · rintro ⟨h1, h2⟩
    exact ⟨fun x hx => ⟨by have := (h1 x hx).1; omega, (h1 x hx).2⟩, h2⟩
  · rintro ⟨h1, h2⟩
    exact ⟨fun x hx => ⟨by have := (h1 x hx).1; omega, (h1 x hx).2⟩, h2⟩
theorem propF_vF (vars : List Int) : ∀ (l : List Fact) (last : Int), propF vars last l = true → vF last l = true
  | [], _, _ => rfl
  | y :: r, last, h => by
    rw [propF, Bool.and_eq_true, decide_eq_true_iff] at h
    rw [vF, propF_vF vars r y.1 h.2, decide_eq_true ⟨h.1.1, h.1.2.2.1⟩]
    rfl
end Go.Proofs.YtohjegemooakpaaGreat.Am
/- Plain laws: regress.compare, BinarySearchFunc over a strictly ascending list. -/
namespace Go.Proofs.YtohjegemooakpaaGreat.Am
open Go.RowKit
def SortedL (l : List (List Fact)) : Prop := l.Pairwise fun a b => cmpLF a b < 0
end Go.Proofs.YtohjegemooakpaaGreat.Am
/- Plain laws: regress.join, regress.silent. -/
namespace Go.Proofs.YtohjegemooakpaaGreat.Am
open Go.RowKit
abbrev PropL (vars : List Int) (l : List (List Fact)) : Prop := ∀ x ∈ l, propF vars (-1) x = true
theorem propF_vF' {vars : List Int} {l : List Fact} (h : propF vars (-1) l = true) : vF (-1) l = true := propF_vF vars l (-1) h
structure JInv (vars : List Int) (s o : List (List Fact)) : Prop where
  asc : SortedL s
  len : s.length = o.length
  mem : ∀ z, z ∈ s ↔ z ∈ o
  prop : PropL vars o
theorem prop_len {vars : List Int} (hv : vars.length ≤ 64) {x : List Fact} (h : propF vars (-1) x = true) : x.length ≤ 64 := Nat.le_trans (propF_len' h) hv
theorem prop_sh {vars : List Int} (hv : vars.length ≤ 64) {x : List Fact} (h : propF vars (-1) x = true) : Sh x := Nat.le_trans (prop_len hv h) (by decide)
end Go.Proofs.YtohjegemooakpaaGreat.Am
/- Plain laws: regress.cases, preimage. -/
namespace Go.Proofs.YtohjegemooakpaaGreat.Am
open Go.RowKit
structure Ok (vars : List Int) : Prop where
  len : vars.length ≤ 64
  dom : ∀ n ∈ vars, 0 ≤ n ∧ n ≤ 64
abbrev WhenP (vars : List Int) (es : List GEffect) : Prop := ∀ e ∈ es, propF vars (-1) e.When = true
end Go.Proofs.YtohjegemooakpaaGreat.Am
/- Plain laws: regress.preimage, partial.Minimal, regress.Regress, Possible. -/
namespace Go.Proofs.YtohjegemooakpaaGreat.Am
open Go.RowKit
-- preimage
structure OkO (vars : List Int) (o : GOp) : Prop where
  effs : o.Effs.length ≤ 64
  when : WhenP vars o.Effs
  pre : propF vars (-1) o.Pre = true
def findF : List Fact → Int → Int
  | [], _ => -1
  | f :: r, v => if f.1 = v then f.2 else findF r v
theorem find_loop (l : List Fact) (v : Int) : ∀ (r : List Fact) (i : Int), Rg (M_p_find_L1_B l v) (M_p_find_L1_E l v) r i () = some (findF r v)
  | [], i => rfl
  | f :: r, i => by
    rw [Rg, M_p_find_L1_B, ixv, findF]
    by_cases h : f.1 = v
    · rw [show (f.1 == v) = true from by simp [h], sel_tt, if_pos h]
    · rw [show (f.1 == v) = false from by simp [h], sel_ff, if_neg h, find_loop l v r]
theorem find_eq (l : List Fact) (v : Int) (hl : Sh l) : M_p_find l v = some (findF l v) := by rw [M_p_find, M_p_find_L1_eq l v hl.lt, find_loop]
theorem findF_mem : ∀ {l : List Fact} {f : Fact}, Asc l → 0 ≤ f.2 → (findF l f.1 = f.2 ↔ f ∈ l)
  | [], f, _, h0 => by rw [findF]; constructor; (intro h; omega); exact (nofun)
  | x :: r, f, ha, h0 => by
    obtain ⟨h1, h2⟩ := List.pairwise_cons.1 ha
    rw [findF, List.mem_cons]
    by_cases h : x.1 = f.1
    · rw [if_pos h]
      constructor
      · intro e; exact Or.inl (Prod.ext h.symm e.symm)
      · rintro (rfl | hm)
        · rfl
        · have := h1 f hm; omega
    · rw [if_neg h, findF_mem h2 h0]
      constructor
      · exact Or.inr
      · rintro (rfl | hm)
        · exact absurd rfl h
        · exact hm
def subF (b a : List Fact) : Bool := b.all fun f => decide (f ∈ a)
theorem subF_iff {a b : List Fact} : subF b a = true ↔ ∀ f ∈ b, f ∈ a := by simp [subF]
theorem contains_eq (a b : List Fact) (ha : Sh a) (hb : Sh b) (hva : vF (-1) a = true) (hvb : vF (-1) b = true) : M_p_contains a b = some (subF b a) := by
  rw [M_p_contains, M_p_contains_L1_eq a b hb.lt, rg_all (p := fun f => decide (f ∈ a)) (c := some false)]
  · rw [M_p_contains_L1_E]; show _ = some (b.all _); cases b.all fun f => decide (f ∈ a) <;> rfl
  · intro y hy i rc
    have h := findF_mem (f := y) ((vF_iff' a).1 hva).2 ((vF_iff' b).1 hvb |>.1 y hy).2
    rw [M_p_contains_L1_B, ixv, find_eq a _ ha, ob1_some]
    by_cases hm : y ∈ a
    · rw [show (findF a y.1 != y.2) = false from by rw [h.2 hm]; simp, sel_ff, decide_eq_true hm, if_pos rfl]
    · rw [show (findF a y.1 != y.2) = true from by rw [bne_iff_ne]; exact fun e => hm (h.1 e), sel_tt, decide_eq_false hm, if_neg (by decide)]
theorem sub_len : ∀ {a b : List Fact}, Asc a → Asc b → (∀ f ∈ b, f ∈ a) → b.length ≤ a.length ∧ (b.length = a.length → b = a)
  | [], [], _, _, _ => ⟨Nat.le_refl _, fun _ => rfl⟩
  | [], y :: s, _, _, h => nomatch h y (List.mem_cons_self ..)
  | x :: r, [], _, _, _ => ⟨Nat.zero_le _, fun e => by cases e⟩
  | x :: r, y :: s, ha, hb, h => by
    obtain ⟨h1, h2⟩ := List.pairwise_cons.1 ha
    obtain ⟨k1, k2⟩ := List.pairwise_cons.1 hb
    rcases List.mem_cons.1 (h y (List.mem_cons_self ..)) with e | hy
    · subst e
      obtain ⟨i1, i2⟩ := sub_len h2 k2 (fun z hz => by
        rcases List.mem_cons.1 (h z (List.mem_cons_of_mem _ hz)) with e | h'
        · have := k1 z hz; rw [e] at this; omega
        · exact h')
      refine ⟨by rw [List.length_cons, List.length_cons]; omega, fun e => ?_⟩
      rw [List.length_cons, List.length_cons] at e
      rw [i2 (by omega)]
    · obtain ⟨i1, -⟩ := sub_len (a := r) h2 hb (fun z hz => by
        rcases List.mem_cons.1 (h z hz) with e | h'
        · have l1 := h1 y hy
          rcases List.mem_cons.1 hz with e2 | hz
          · rw [e] at e2; rw [← e2] at l1; omega
          · have l2 := k1 z hz; rw [e] at l2; omega
        · exact h')
      rw [List.length_cons] at i1
      exact ⟨by rw [List.length_cons, List.length_cons]; omega, fun e => by rw [List.length_cons, List.length_cons] at e; omega⟩
theorem nodup_at {α : Type} {l : List α} (h : l.Nodup) {i j : Nat} {x : α} (hi : l[i]? = some x) (hj : l[j]? = some x) : i = j := by
  obtain ⟨b1, b2⟩ := List.getElem?_eq_some_iff.1 hi
  obtain ⟨b3, b4⟩ := List.getElem?_eq_some_iff.1 hj
  rcases Nat.lt_trichotomy i j with hl | hl | hl
  · exact absurd (b2.trans b4.symm) (List.pairwise_iff_getElem.1 h i j b1 b3 hl)
  · exact hl
  · exact absurd (b4.trans b2.symm) (List.pairwise_iff_getElem.1 h j i b3 b1 hl)
def keepF (l : List (List Fact)) (x : List Fact) : Bool := l.all fun y => !(subF y x && decide (y ≠ x))
theorem min1 (vars : List Int) (hv : vars.length ≤ 64) (l : List (List Fact)) (hl : PropL vars l) (hn : l.Nodup) (i : Nat) (x : List Fact) (hx : l[i]? = some x) : ∀ (r : List (List Fact)) (n : Nat), l.drop n = r →
    Rg (M_p_Minimal_L1_B l i x) (M_p_Minimal_L1_E l i x) r n () = some (r.all fun y => !(subF y x && decide (y ≠ x)))
  | [], n, h => rfl
  | y :: r, n, h => by
    obtain ⟨hy, hd, hlt⟩ := drop_cons h
    have hxp := hl x (List.mem_of_getElem? hx)
    have hyp := hl y (List.mem_of_getElem? hy)
    have ih := min1 vars hv l hl hn i x hx r (n + 1) hd
    have vx := propF_vF' hxp
    have vy := propF_vF' hyp
    rw [Rg, M_p_Minimal_L1_B, ixv, List.all_cons]
    by_cases e : i = n
    · subst e
      obtain rfl : x = y := by rw [hx] at hy; exact Option.some.inj hy
      rw [show ((i : Int) != (i : Int)) = false from by simp, sel_ff, decide_eq_false (by simp), Bool.and_false, Bool.not_false, Bool.true_and]
      exact ih
    · have hne : y ≠ x := fun h => e (nodup_at hn hx (h ▸ hy))
      rw [show ((i : Int) != (n : Int)) = true from by rw [bne_iff_ne]; omega, sel_tt, valid_eq y (prop_sh hv hyp), vy, ob1_some, sel_tt, contains_eq x y (prop_sh hv hxp) (prop_sh hv hyp) vx vy, ob1_some, decide_eq_true hne, Bool.and_true]
      cases hs : subF y x with
      | false => rw [sel_ff, Bool.not_false, Bool.true_and]; exact ih
      | true =>
        obtain ⟨s1, s2⟩ := sub_len ((vF_iff' x).1 vx).2 ((vF_iff' y).1 vy).2 (subF_iff.1 hs)
        have : y.length ≠ x.length := fun e => hne (s2 e)
        rw [sel_tt, sel_dec, if_pos (by rw [List.length_map, List.length_map]; omega), Bool.not_true, Bool.false_and]
theorem min2 (vars : List Int) (hv : vars.length ≤ 64) (l : List (List Fact)) (hl : PropL vars l) (hn : l.Nodup) (hc : l.length ≤ 100000) : ∀ (r : List (List Fact)) (n : Nat) (v : List (List Fact)), l.drop n = r → v.length ≤ n →
    Rg (M_p_Minimal_L2_B l) (M_p_Minimal_L2_E l) r n v = some (v ++ r.filter (keepF l))
  | [], n, v, h, hvl => by rw [Rg, M_p_Minimal_L2_E, List.filter_nil, List.append_nil]
  | x :: r, n, v, h, hvl => by
    obtain ⟨hy, hd, hlt⟩ := drop_cons h
    have hxp := hl x (List.mem_of_getElem? hy)
    have hxl := prop_len hv hxp
    rw [Rg, M_p_Minimal_L2_B, ixv, valid_eq x (prop_sh hv hxp), propF_vF' hxp, ob1_some, Bool.not_true, sel_ff, M_p_Minimal_L1_eq l n x (by omega)]
    have h1 := min1 vars hv l hl hn n x hy l 0 rfl
    rw [show ((0 : Nat) : Int) = 0 from rfl] at h1
    rw [h1, ob1_some, List.filter_cons]
    show ob1 (sel (keepF l x) _ _) _ = _
    cases keepF l x with
    | true =>
      rw [sel_tt, M_cloneF, grd_t (by omega), ob1_some, grd_t (by omega), grd_t (by omega), ob1_some, if_pos rfl]
      have := min2 vars hv l hl hn hc r (n + 1) (v ++ [x]) hd (by rw [List.length_append, List.length_singleton]; omega)
      rw [List.append_assoc, List.singleton_append] at this
      exact this
    | false =>
      rw [sel_ff, ob1_some, if_neg (by decide)]
      exact min2 vars hv l hl hn hc r (n + 1) v hd (by omega)
end Go.Proofs.YtohjegemooakpaaGreat.Am
/- Plain laws: stratagembase.Facts, Is, Holds, Small. -/
namespace Go.Proofs.YtohjegemooakpaaGreat.Am
open Go.RowKit
theorem num_no (z : Int) : M_b_Num (.no z) = some z := rfl
end Go.Proofs.YtohjegemooakpaaGreat.Am
/- Plain law: what a regression means for the states. -/
namespace Go.Proofs.YtohjegemooakpaaGreat.Am
open Go.RowKit
/-- a state: a value in range for each variable -/
structure StP (vars s : List Int) : Prop where
  len : s.length = vars.length
  rng : ∀ v : Nat, v < vars.length → 0 ≤ s.getD v 0 ∧ s.getD v 0 < vars.getD v 0
end Go.Proofs.YtohjegemooakpaaGreat.Am
/- Plain laws: stratagembase.States, Apply. -/
namespace Go.Proofs.YtohjegemooakpaaGreat.Am
open Go.RowKit
end Go.Proofs.YtohjegemooakpaaGreat.Am
/- Models printed by my decompiler, and the proofs that the code computes them. -/
namespace Go.Proofs.YtohjegemooakpaaGreat.Am
set_option maxHeartbeats 16000000
set_option maxRecDepth 100000
open Go.RowKit
structure GCertificate where
  Bound : Int
  Nogoods : List Nogood
  deriving DecidableEq
def cGCertificate (x : GCertificate) : List AV := [.c (.int .i64 x.Bound), .sl 2 (x.Nogoods.map cN)]
theorem fr_cGCertificate (x : GCertificate) : ∀ y ∈ cGCertificate x, Fr y := FrC_cons (.c _) (FrC_cons (.sl (frl_cN _)) (FrC_nil))
theorem frl_cGCertificate (l : List GCertificate) : FrL (l.map cGCertificate) := FrL_map (fun x _ => fr_cGCertificate x)
instance {l : List GCertificate} : FrI (l.map cGCertificate) := ⟨frl_cGCertificate l⟩
theorem zb_XDLow {P : Prop} (h : P := by repeat (first | exact BWL.nil | exact bwll_nil | exact bw_c | exact BW.sl | exact BW.nil | exact bwll_same rfl FrI.h | refine BWL.cons ?_ ?_ | refine bwll_cons ?_ ?_ | (refine bw_own3 rfl rfl rfl FrI.h ?_ ?_ ?_) | exact BW.fr FrV.h | exact BW.fr (by assumption) | refine bw_agg ?_ | refine bw_clo ?_ | refine bw_ptr rfl rfl rfl ?_ | (refine bw_own rfl rfl rfl ?_ FrI.h ?_ ?_) | assumption | omega | rfl | (rw [List.length_map, ← List.length_append]; assumption) | (refine bwll_same ?_ FrI.h; (simp [cGTask, cI, cF, cGOp, cGEffect, cGCertificate, cN, cGEntry, cL_cF] <;> fail)) | (rw [List.map_set]; refine bwll_set (by first | rfl | omega | simp) ?_ ?_) | refine bwll_set (by first | rfl | omega | simp) ?_ ?_ | (rw [List.map_replicate]; refine bwll_rep ?_) | refine bwll_rep ?_ | (rw [List.map_append]; refine bwll_append ?_ ?_) | refine bwll_append ?_ ?_ | (simp [cGTask, cI, cF, cGOp, cGEffect, cGCertificate, cN, cGEntry, cL_cF, take_len_map] <;> fail) | (rw [List.drop_zero, List.take_of_length_le] <;> first | rfl | (simp [cGTask, cI, cF, cGOp, cGEffect, cGCertificate, cN, cGEntry, cL_cF] <;> fail)) | (simp; omega) | (simp only [List.length_map, List.length_append, List.drop_zero, List.length_cons, List.length_nil, Nat.zero_add, Nat.add_zero] at *; omega))) : P := h
theorem zg_XDLow {P : Prop} (h : P := by repeat (first | exact True.intro | exact gb_nil rfl rfl | exact gb_take rfl ⟨rfl, rfl, rfl⟩ List.map_take FrI.h | refine gb_some ⟨rfl, rfl, rfl⟩ ?_ | refine And.intro ?_ ?_ | refine gw_ren rfl rfl rfl rfl rfl ?_ | exact gw_oren rfl rfl rfl rfl rfl | exact gw_opren rfl rfl rfl rfl rfl | exact gw_onil rfl rfl | refine gw_pren rfl rfl rfl rfl rfl | exact gw_thaw rfl rfl rfl | refine gw_tup ?_ | refine gw_ifc ?_ | exact GWL.nil | exact gwll_nil | exact gw_c | exact GW.sl | exact GW.nil | exact gwll_same rfl FrI.h | refine GWL.cons ?_ ?_ | refine gwll_cons ?_ ?_ | (refine gw_own3 rfl rfl rfl FrI.h ?_ ?_ ?_) | exact GW.fr FrV.h | exact GW.fr (by assumption) | refine gw_agg ?_ | refine gw_clo ?_ | refine gw_ptr rfl rfl rfl ?_ | (refine gw_own rfl rfl rfl ?_ FrI.h ?_ ?_) | assumption | omega | rfl | (rw [List.length_map, ← List.length_append]; assumption) | (refine gwll_same ?_ FrI.h; (simp [cGTask, cI, cF, cGOp, cGEffect, cGCertificate, cN, cGEntry, cL_cF] <;> fail)) | (rw [List.map_set]; refine gwll_set (by first | rfl | omega | simp) ?_ ?_) | refine gwll_set (by first | rfl | omega | simp) ?_ ?_ | (rw [List.map_replicate]; refine gwll_rep ?_) | refine gwll_rep ?_ | (rw [List.map_append]; refine gwll_append ?_ ?_) | refine gwll_append ?_ ?_ | (simp [cGTask, cI, cF, cGOp, cGEffect, cGCertificate, cN, cGEntry, cL_cF, take_len_map] <;> fail) | (rw [List.drop_zero, List.take_of_length_le] <;> first | rfl | (simp [cGTask, cI, cF, cGOp, cGEffect, cGCertificate, cN, cGEntry, cL_cF] <;> fail)) | (simp; omega) | (simp only [List.length_map, List.length_append, List.drop_zero, List.length_cons, List.length_nil, Nat.zero_add, Nat.add_zero] at *; omega))) : P := h
theorem ci_XDLow {p K : Prop} (k : K) (h : p := by first | rfl | exact ⟨rfl, rfl⟩ | exact BW.fr FrV.h | (refine BW.fr ?_; assumption) | (refine ⟨rfl, ?_⟩; (simp [cGTask, cI, cF, cGOp, cGEffect, cGCertificate, cN, cGEntry, cL_cF, take_len_map]; done)) | (refine RowK.same ?_ FrI.h; first | rfl | (simp [cGTask, cI, cF, cGOp, cGEffect, cGCertificate, cN, cGEntry, cL_cF, take_len_map]; done)) | (refine row_part1 ?_; (exact zb_XDLow); done) | ((exact zb_XDLow); done) | (simp [cGTask, cI, cF, cGOp, cGEffect, cGCertificate, cN, cGEntry, cL_cF, take_len_map]; done)) : p ∧ K := ⟨h, k⟩
theorem ca_XDLow {P : Prop} (h : P := by repeat (first | exact True.intro | refine ci_XDLow ?_)) : P := h
theorem pr_XDLow {p K : Prop} (k : K) (h : p := by first | assumption | exact Int.natCast_nonneg _ | exact Nat.le_refl _ | exact Nat.zero_le _ | omega | (simp; done) | (simp; omega)) : p ∧ K := ⟨h, k⟩
theorem pl_XDLow {p K : Prop} (k : K) (h : p := by first | rfl | exact List.length_map _ | (simp; done) | (simp; omega)) : p ∧ K := ⟨h, k⟩
theorem pe_XDLow {p K : Prop} (k : K) (h : p := by first | omega | (simp; omega) | (simp only [List.length_map, List.length_cons, List.length_nil, List.length_append]; omega) | (simp only [List.length_map, List.drop_zero, List.length_cons, List.length_nil, Nat.zero_add, Nat.add_zero] at *; omega)) : p ∧ K := ⟨h, k⟩
theorem dr_XDLow {b : Bool} {p K : Prop} (k : K) (h : b = true → p := by intro h; first | (cases h; done) | exact ⟨by kernel_rfl, by kernel_rfl⟩) : (b = true → p) ∧ K := ⟨h, k⟩
theorem cl_XDLow {C : Cx} {n : Nat} {o : Oper} {τ : Nat → AV} {η : Nat → Ent} {f : FuncId} {os : Array Operand} {ats : Array TypeId} {r : AV} {args : List AV} {K : Foot → Prop} (ho : o.op = .call ⟨.value (.func f), os, ats⟩) (hc : ACall C f args r) (k : K ⟨r, [], []⟩)
    (hd : InB n o.dst := by exact Nat.le_of_ble_eq_true rfl) (hargs : os.toList.map (evA τ) = args := by first | rfl | (simp [cGTask, cI, cF, cGOp, cGEffect, cGCertificate, cN, cGEntry, cL_cF]; done) | (repeat (first | exact rfl | refine cons_eq ?_ ?_ | exact sl_dt rfl))) (hfr : frs args := by repeat (first | exact trivial | exact fr1_eA _ | exact fr0_eA _ | exact fr1_fr (by assumption) | exact FrV.h | refine And.intro ?_ ?_)) (hr : fr1 r := by repeat (first | exact trivial | exact fr1_eA _ | exact fr0_eA _ | exact fr1_fr (by assumption) | exact FrV.h | refine And.intro ?_ ?_)) : ∃ f : Foot, LF C n o τ η f ∧ K f := ⟨_, lf_call ho hd hargs hc hfr hr, k⟩
theorem clc_XDLow {C : Cx} {n : Nat} {o : Oper} {τ : Nat → AV} {η : Nat → Ent} {c : Operand} {os : Array Operand} {ats : Array TypeId} {r F : AV} {xs : List AV} {K : Foot → Prop} (ho : o.op = .call ⟨.value c, os, ats⟩) (hc : CCl C F xs r) (hfF : Fr F) (k : K ⟨r, [], []⟩)
    (hd : InB n o.dst := by exact Nat.le_of_ble_eq_true rfl) (hF : evA τ c = F := by rfl) (hargs : os.toList.map (evA τ) = xs := by first | rfl | (simp [cGTask, cI, cF, cGOp, cGEffect, cGCertificate, cN, cGEntry, cL_cF]; done) | (repeat (first | exact rfl | refine cons_eq ?_ ?_ | exact sl_dt rfl))) (hfr : frs xs := by repeat (first | exact trivial | exact fr1_eA _ | exact fr0_eA _ | exact fr1_fr (by assumption) | exact FrV.h | refine And.intro ?_ ?_)) (hr : fr1 r := by repeat (first | exact trivial | exact fr1_eA _ | exact fr0_eA _ | exact fr1_fr (by assumption) | exact FrV.h | refine And.intro ?_ ?_)) : ∃ f : Foot, LF C n o τ η f ∧ K f := ⟨_, lf_clo ho hd hF hargs hc hfF hfr hr, k⟩
theorem clb_XDLow {C : Cx} {n : Nat} {o : Oper} {τ : Nat → AV} {η : Nat → Ent} {f : FuncId} {os : Array Operand} {ats : Array TypeId} {r : AV} {xs ys : List AV} {K : Foot → Prop} (bs : List Nat) (ho : o.op = .call ⟨.value (.func f), os, ats⟩) (hargs : os.toList.map (evA τ) = xs) (hc : ACall C f ys r) (k : K ⟨r, [], bs⟩)
    (hd : InB n o.dst := by exact Nat.le_of_ble_eq_true rfl) (hb : BWL η (dropB η bs) xs ys := by exact zb_XDLow) (hr : scal r := by repeat (first | exact trivial | exact scal0_eA _ | exact scal_eA _ | refine And.intro ?_ ?_)) : ∃ f : Foot, LF C n o τ η f ∧ K f := ⟨_, lf_callB bs ho hd hargs hb hc hr, k⟩
theorem clg_XDLow {C : Cx} {n : Nat} {o : Oper} {τ : Nat → AV} {η : Nat → Ent} {f : FuncId} {os : Array Operand} {ats : Array TypeId} {r : AV} {xs ys : List AV} {bs bs' : List (Nat × Blk)} {ks : List Nat} {K : Foot → Prop} (ρ : List (Nat × Nat)) (fz : List Nat) (go nb : List (Nat × Ent)) (r' : AV) (ho : o.op = .call ⟨.value (.func f), os, ats⟩) (hargs : os.toList.map (evA τ) = xs)
    (hc : ACallG C f ys bs ks r bs') (k : K ⟨r', go ++ nb, []⟩) (hd : InB n o.dst := by exact Nat.le_of_ble_eq_true rfl) (hok : okC ρ fz bs ks bs' (idsE go) = true := by rfl) (hgo : allUs η go := by repeat (first | exact trivial | refine And.intro rfl ?_)) (hgl : ltUs n go := by repeat (first | exact trivial | refine And.intro (Nat.le_of_ble_eq_true rfl) ?_))
    (hw : GWL η (fE bs) (lk ρ) (fun i => inB fz i = true) (fun i => inB (keys bs) i = true) xs ys := by exact zg_XDLow) (hb : GBL η (fE bs) (lk ρ) (fun i => inB fz i = true) (fun i => inB (keys bs) i = true) bs := by exact zg_XDLow)
    (hr : GW (fE bs') (updAll η (go ++ nb)) (lk (backN ρ bs')) (fun _ => False) (fun i => inB (idsE nb) i = true) r r' := by exact zg_XDLow)
    (hnb : nbOk n η (updAll η (go ++ nb)) ρ ks (fE bs') (lk (backN ρ bs')) (fun i => inB (idsE nb) i = true) bs' nb := by repeat (first | exact True.intro | rfl | exact Nat.le_of_ble_eq_true rfl | exact gb_nil rfl rfl | exact gb_take rfl ⟨rfl, rfl, rfl⟩ List.map_take FrI.h | refine gb_some ⟨rfl, rfl, rfl⟩ ?_ | refine And.intro ?_ ?_ | refine gw_ren rfl rfl rfl rfl rfl ?_ | exact gw_oren rfl rfl rfl rfl rfl | exact gw_opren rfl rfl rfl rfl rfl | exact gw_onil rfl rfl | refine gw_pren rfl rfl rfl rfl rfl | exact gw_thaw rfl rfl rfl | refine gw_tup ?_ | refine gw_ifc ?_ | exact GWL.nil | exact gwll_nil | exact gw_c | exact GW.sl | exact GW.nil | exact gwll_same rfl FrI.h | refine GWL.cons ?_ ?_ | refine gwll_cons ?_ ?_ | (refine gw_own3 rfl rfl rfl FrI.h ?_ ?_ ?_) | exact GW.fr FrV.h | exact GW.fr (by assumption) | refine gw_agg ?_ | refine gw_clo ?_ | refine gw_ptr rfl rfl rfl ?_ | (refine gw_own rfl rfl rfl ?_ FrI.h ?_ ?_) | assumption | omega | rfl | (rw [List.length_map, ← List.length_append]; assumption) | (refine gwll_same ?_ FrI.h; (simp [cGTask, cI, cF, cGOp, cGEffect, cGCertificate, cN, cGEntry, cL_cF] <;> fail)) | (rw [List.map_set]; refine gwll_set (by first | rfl | omega | simp) ?_ ?_) | refine gwll_set (by first | rfl | omega | simp) ?_ ?_ | (rw [List.map_replicate]; refine gwll_rep ?_) | refine gwll_rep ?_ | (rw [List.map_append]; refine gwll_append ?_ ?_) | refine gwll_append ?_ ?_ | (simp [cGTask, cI, cF, cGOp, cGEffect, cGCertificate, cN, cGEntry, cL_cF, take_len_map] <;> fail) | (rw [List.drop_zero, List.take_of_length_le] <;> first | rfl | (simp [cGTask, cI, cF, cGOp, cGEffect, cGCertificate, cN, cGEntry, cL_cF] <;> fail)) | (simp; omega) | (simp only [List.length_map, List.length_append, List.drop_zero, List.length_cons, List.length_nil, Nat.zero_add, Nat.add_zero] at *; omega))) : ∃ f : Foot, LF C n o τ η f ∧ K f := ⟨_, lf_callG ρ fz go nb ho hd hargs hc hok hgo hgl hw hb hr hnb, k⟩
def M_certify_bounded (a0 : Int) : Option (Bool) :=
  sel (decide (a0 ≥ (-1)))
   (some (decide (a0 ≤ 1099511627776)))
   (some false)
theorem A_certify_bounded (a0 : Int) {r1 : Bool} (h : M_certify_bounded a0 = some r1) : ACall cx 38 [.c (.int .i64 a0)] (.c (.bool r1)) := by
  refine aOf Tryz.func38 rfl (by decide) rfl (Nat.le_of_ble_eq_true rfl) ?_; intro _; unfold M_certify_bounded at h; refine aSR ?_; intro _; refine dr_XDLow ?_; refine aSR ?_; intro _; refine spl h (fun c1 h => ?_) (fun c1 h => ?_)
  · intro _; refine dr_XDLow ?_; refine aRt ?_; intro _; obtain rfl := inj1 h; exact ca_XDLow
  · intro _; refine dr_XDLow ?_; refine aRt ?_; intro _; obtain rfl := inj1 h; exact ca_XDLow
def M_s_IndexFunc_Nogood_L1 (a0 : List Nogood) (a1 : Nogood → Option Bool) : Nat → Int → Option (Int)
  | 0, _ => none
  | k7 + 1, v6 =>
    sel (decide (v6 < ((a0.map cN).length : Int)))
     (ix a0 v6 (fun y8 =>
       ob1 (a1 y8) (fun z9 =>
        sel z9
         (some v6)
         (M_s_IndexFunc_Nogood_L1 a0 a1 k7 (IntKind.i64.wrap (v6 + 1))))))
     (some (-1))
def M_s_IndexFunc_Nogood (a0 : List Nogood) (a1 : Nogood → Option Bool) : Option (Int) :=
  M_s_IndexFunc_Nogood_L1 a0 a1 ((((a0.map cN).length : Int)).toNat + 1) 0
theorem A_s_IndexFunc_Nogood (a0 : List Nogood) (a1 : Nogood → Option Bool) (Fa1 : AV) (hFa1 : Fr Fa1) (ea1 : ∃ f fs cap, Fa1 = .clo (.func f) fs cap) (ha1 : ∀ (x0 : Nogood) (y0 : Bool), a1 x0 = some y0 → CCl cx Fa1 [.agg [.sl 2 (x0.1.map cF), .c (.int .i64 x0.2)]] (.c (.bool y0))) {r1 : Int} (h : M_s_IndexFunc_Nogood a0 a1 = some r1) : ACall cx 92 [.sl 2 (a0.map cN), Fa1] (.c (.int .i64 r1)) := by
  obtain ⟨fa1, sa1, qa1, rfl⟩ := ea1; refine aOf Tryz.func92 rfl (by decide) rfl (Nat.le_of_ble_eq_true rfl) ?_; intro _; unfold M_s_IndexFunc_Nogood at h; refine aSR ?_; intro _; refine dr_XDLow ?_; refine aSq ?_; refine aSR ?_; intro _; refine dr_XDLow ?_; refine aBk ?_; refine awp_loop (α := Nat × Int) (fun x => mkS 19 [(0, .sl 2 (a0.map cN)), (1, .clo (.func fa1) sa1 qa1), (7, .c (.int .i64 ((a0.map cN).length : Int))), (8, .c (.int .i64 x.2))] []) (fun x => M_s_IndexFunc_Nogood_L1 a0 a1 x.1 x.2 = some r1) (fun x => x.1) ((((a0.map cN).length : Int)).toNat + 1, 0) h ?_ ?_
  · exact ca_XDLow
  · intro x1 h; intro _; obtain ⟨k7, m2, h⟩ := succ_of (f := fun n => M_s_IndexFunc_Nogood_L1 a0 a1 n x1.2) rfl h; replace h : M_s_IndexFunc_Nogood_L1 a0 a1 (k7 + 1) x1.2 = some r1 := h; rw [M_s_IndexFunc_Nogood_L1] at h; refine aSR ?_; intro _; refine dr_XDLow ?_; refine aSq ?_; refine aCd ?_; intro _; refine spl h (fun c3 h => ?_) (fun c3 h => ?_)
    · refine aSk ?_; refine aSq ?_; refine aBk ?_; refine aSR ?_; intro _; refine dr_XDLow ?_; refine aSR ?_; intro _; obtain ⟨y8, w4, q5, h⟩ := ix_ok h; refine Exists.intro (cN y8) (And.intro (map_at' w4) ?_); intro _; obtain ⟨z9, u6, h⟩ := ob1_ok h; refine clc_XDLow rfl (ha1 _ _ u6) hFa1 ?_; intro _; refine pr_XDLow ?_; refine dr_XDLow ?_; refine aCd ?_; intro _; refine spl h (fun c7 h => ?_) (fun c7 h => ?_)
      · refine aSR ?_; intro _; refine dr_XDLow ?_; refine aRt ?_; intro _; obtain rfl := inj1 h; exact ca_XDLow
      · refine aSk ?_; refine aRg ?_; intro _; refine dr_XDLow ?_; refine ⟨(k7, (IntKind.i64.wrap (x1.2 + 1))), h, ltS m2, ?_⟩; exact ca_XDLow
    · refine aEx ?_; refine aSR ?_; intro _; refine dr_XDLow ?_; refine aRt ?_; intro _; obtain rfl := inj1 h; exact ca_XDLow
def M_s_ContainsFunc_Nogood (a0 : List Nogood) (a1 : Nogood → Option Bool) : Option (Bool) :=
  ob1 (M_s_IndexFunc_Nogood a0 a1) (fun z1 =>
   some (decide (z1 ≥ 0)))
theorem A_s_ContainsFunc_Nogood (a0 : List Nogood) (a1 : Nogood → Option Bool) (Fa1 : AV) (hFa1 : Fr Fa1) (ea1 : ∃ f fs cap, Fa1 = .clo (.func f) fs cap) (ha1 : ∀ (x0 : Nogood) (y0 : Bool), a1 x0 = some y0 → CCl cx Fa1 [.agg [.sl 2 (x0.1.map cF), .c (.int .i64 x0.2)]] (.c (.bool y0))) {r1 : Bool} (h : M_s_ContainsFunc_Nogood a0 a1 = some r1) : ACall cx 73 [.sl 2 (a0.map cN), Fa1] (.c (.bool r1)) := by
  obtain ⟨fa1, sa1, qa1, rfl⟩ := ea1; refine aOf Tryz.func73 rfl (by decide) rfl (Nat.le_of_ble_eq_true rfl) ?_; intro _; unfold M_s_ContainsFunc_Nogood at h; refine aSR ?_; intro _; refine dr_XDLow ?_; refine aSR ?_; intro _; obtain ⟨z1, u1, h⟩ := ob1_ok h; refine cl_XDLow rfl (A_s_IndexFunc_Nogood a0 a1 (.clo (.func fa1) sa1 qa1) hFa1 ⟨_, _, _, rfl⟩ ha1 u1) ?_; intro _; refine dr_XDLow ?_; refine aRt ?_; intro _; obtain rfl := inj1 h; exact ca_XDLow
def M_p_Contains (a0 : List Fact) (a1 : List Fact) : Option (Bool) :=
  ob1 (M_p_valid a0) (fun z1 =>
   sel z1
    (ob1 (M_p_valid a1) (fun z2 =>
      sel z2
       (ob1 (M_p_contains a0 a1) (fun z3 =>
         some z3))
       (some false)))
    (some false))
theorem A_p_Contains (a0 : List Fact) (a1 : List Fact) {r1 : Bool} (h : M_p_Contains a0 a1 = some r1) : ACall cx 20 [.sl 2 (a0.map cF), .sl 2 (a1.map cF)] (.c (.bool r1)) := by
  refine aOf Tryz.func20 rfl (by decide) rfl (Nat.le_of_ble_eq_true rfl) ?_; intro _; unfold M_p_Contains at h; refine aSR ?_; intro _; refine dr_XDLow ?_; refine aSR ?_; intro _; obtain ⟨z1, u1, h⟩ := ob1_ok h; refine cl_XDLow rfl (A_p_valid a0 u1) ?_; intro _; refine spl h (fun c2 h => ?_) (fun c2 h => ?_)
  · intro _; obtain ⟨z2, u3, h⟩ := ob1_ok h; refine cl_XDLow rfl (A_p_valid a1 u3) ?_; intro _; refine spl h (fun c4 h => ?_) (fun c4 h => ?_)
    · intro _; obtain ⟨z3, u5, h⟩ := ob1_ok h; refine cl_XDLow rfl (A_p_contains a0 a1 u5) ?_; intro _; refine dr_XDLow ?_; refine aRt ?_; intro _; obtain rfl := inj1 h; exact ca_XDLow
    · intro _; refine dr_XDLow ?_; refine aRt ?_; intro _; obtain rfl := inj1 h; exact ca_XDLow
  · intro _; refine dr_XDLow ?_; refine aRt ?_; intro _; obtain rfl := inj1 h; exact ca_XDLow
def M_certify_contains_1 (b0 : List Fact) (a0 : Nogood) : Option (Bool) :=
  ob1 (M_p_Contains b0 a0.1) (fun z1 =>
   some z1)
theorem A_certify_contains_1 (b0 : List Fact) (a0 : Nogood) {r1 : Bool} (h : M_certify_contains_1 b0 a0 = some r1) : ACall cx 74 [.agg [.sl 2 (a0.1.map cF), .c (.int .i64 a0.2)], .pim [.sl 2 (b0.map cF)] 0] (.c (.bool r1)) := by
  refine aOf Tryz.func74 rfl (by decide) rfl (Nat.le_of_ble_eq_true rfl) ?_; intro _; unfold M_certify_contains_1 at h; refine aSR ?_; intro _; refine dr_XDLow ?_; refine aSR ?_; intro _; obtain ⟨z1, u1, h⟩ := ob1_ok h; refine cl_XDLow rfl (A_p_Contains b0 a0.1 u1) ?_; intro _; refine dr_XDLow ?_; refine aRt ?_; intro _; obtain rfl := inj1 h; exact ca_XDLow
def M_certify_contains (a0 : List Fact) (a1 : List Nogood) : Option (Bool) :=
  ob1 (M_s_ContainsFunc_Nogood a1 (M_certify_contains_1 a0)) (fun z1 =>
   some z1)
theorem A_certify_contains (a0 : List Fact) (a1 : List Nogood) {r1 : Bool} (h : M_certify_contains a0 a1 = some r1) : ACall cx 42 [.sl 2 (a0.map cF), .sl 2 (a1.map cN)] (.c (.bool r1)) := by
  refine aOf Tryz.func42 rfl (by decide) rfl (Nat.le_of_ble_eq_true rfl) ?_; intro _; unfold M_certify_contains at h; refine aSR ?_; intro _; refine dr_XDLow ?_; refine aSR ?_; intro _; refine ⟨_, lf_func rfl (Nat.le_of_ble_eq_true rfl) rfl rfl, ?_⟩; intro _; obtain ⟨z1, u1, h⟩ := ob1_ok h; refine clb_XDLow [2] rfl rfl (A_s_ContainsFunc_Nogood a1 (M_certify_contains_1 a0) (.clo (.func 74) [] [.pim [.sl 2 (a0.map cF)] 0]) (Fr.clo FrC_nil FrE.h) ⟨_, _, _, rfl⟩ (fun x0 y0 hx => ⟨74, [], _, rfl, A_certify_contains_1 a0 x0 hx⟩) u1) ?_; intro _; refine dr_XDLow ?_; refine aRt ?_; intro _; obtain rfl := inj1 h; exact ca_XDLow
def M_certify_Lower_L1 (g : Nat) (v843 : Int) (z845 : List (List Fact)) : Nat → Int → Int → (List GEntry) → Option ((Int × (List GEntry)) ⊕ (GCertificate × Er))
  | 0, _, _, _ => none
  | k858 + 1, v855, v856, v857 =>
    sel (decide (v856 < ((z845.map cL_cF).length : Int)))
     (ix z845 v856 (fun y859 =>
       ob1 (M_container_heap_Push g v857 ({ facts := y859, dist := v843, order := v855 : GEntry })) (fun c860 =>
        M_certify_Lower_L1 g v843 z845 k858 (IntKind.i64.wrap (v855 + 1)) (IntKind.i64.wrap (v856 + 1)) c860)))
     (some (.inl (v855, v857)))
def M_certify_Lower_L2 (a0 : GTask) (a1 : Int) (g : Nat) (z580 : GEntry) : Nat → Int → Int → (List GEntry) → Option ((Int × (List GEntry)) ⊕ (GCertificate × Er))
  | 0, _, _, _ => none
  | k817 + 1, v814, v815, v816 =>
    sel (decide (v815 < ((a0.Ops.map cGOp).length : Int)))
     (ob1 (ix a0.Ops v815 (fun y842 =>
        ob1 (sel (decide (a1 < 0))
          (some (.inl 0))
          (sel (decide ((IntKind.i64.wrap (z580.dist + y842.Cost)) ≥ a1))
            (some (.inr ()))
            (some (.inl (IntKind.i64.wrap (z580.dist + y842.Cost))))) : Option (Int ⊕ Unit))
         (osum
         (fun v843 => ob2 (M_g_Regress g a0 v815 z580.facts) (fun z845 z846 =>
            erM z846
             (M_certify_Lower_L1 g v843 z845 ((((z845.map cL_cF).length : Int)).toNat + 1) v814 0 v816)
             (fun e847 => some (.inr ({ Bound := 0, Nogoods := [] : GCertificate }, (Er.no e847))))))
         (fun _ => some (.inl (v814, v816))))) : Option ((Int × (List GEntry)) ⊕ (GCertificate × Er)))
       (osum
       (fun (v837, v838) => M_certify_Lower_L2 a0 a1 g z580 k817 v837 (IntKind.i64.wrap (v815 + 1)) v838)
       (fun (r839, r840) => some (.inr (r839, r840)))))
     (some (.inl (v814, v816)))
def M_certify_Lower_L3 (a0 : GTask) (a1 : Int) (a2 : Int) (g : Nat) : Nat → Int → (List GEntry) → (List Nogood) → Option (GCertificate × Er)
  | 0, _, _, _ => none
  | k577 + 1, v574, v575, v576 =>
    ob2 (M_stratagem_certify_entries_Len v575) (fun z578 c579 =>
     grd (c579.length = v575.length) (sel (decide (z578 > 0))
      (ob2 (M_container_heap_Pop g c579) (fun z580 c581 =>
        grd (v576.length ≤ 140737488355328) (ob1 (M_certify_contains z580.facts v576) (fun z582 =>
         sel z582
          (M_certify_Lower_L3 a0 a1 a2 g k577 v574 c581 v576)
          (ob1 (M_task_Holds z580.facts a0.Init) (fun z583 =>
            sel z583
             (some ({ Bound := 0, Nogoods := [] : GCertificate }, (Er.no 13)))
             (sel (((v576.length : Nat) : Int) == (max 0 (min a2 4096)))
               (some ({ Bound := 0, Nogoods := [] : GCertificate }, (Er.no 10)))
               (grd ((v576.length + 1) * 32 ≤ 140737488355328) (ob1 (M_certify_Lower_L2 a0 a1 g z580 ((((a0.Ops.map cGOp).length : Int)).toNat + 1) v574 0 c581 : Option ((Int × (List GEntry)) ⊕ (GCertificate × Er)))
                 (osum
                 (fun (v720, v721) => M_certify_Lower_L3 a0 a1 a2 g k577 v720 v721 (v576 ++ [(z580.facts, z580.dist)]))
                 (fun (r722, r723) => some (r722, r723))))))))))))
      (grd (v576.length ≤ 140737488355328) (some ({ Bound := a1, Nogoods := v576 : GCertificate }, Er.nil)))))
def M_certify_Lower (g : Nat) (a0 : GTask) (a1 : Int) (a2 : Int) : Option (GCertificate × Er) :=
  ob1 (M_task_Check a0) (fun z1 =>
   erM z1
    (ob1 (M_certify_bounded a1) (fun z3 =>
      sel (!z3)
       (some ({ Bound := 0, Nogoods := [] : GCertificate }, (Er.no 1)))
       (sel (a1 == 0)
         (some ({ Bound := a1, Nogoods := [] : GCertificate }, Er.nil))
         (ob1 (M_cloneF a0.Goal) (fun z4 =>
           grd (z4.length ≤ 140737488355328) (M_certify_Lower_L3 a0 a1 a2 g g 1 [{ facts := z4, dist := 0, order := 0 : GEntry }] []))))))
    (fun e2 => some ({ Bound := 0, Nogoods := [] : GCertificate }, (Er.no e2))))
theorem A_certify_Lower (g : Nat) (a0 : GTask) (a1 : Int) (a2 : Int) {r1 : GCertificate} {r2 : Er} (h : M_certify_Lower g a0 a1 a2 = some (r1, r2)) : ACall cx 13 [.agg [.sl 1 (a0.Vars.map cI), .sl 1 (a0.Init.map cI), .sl 2 (a0.Goal.map cF), .sl 4 (a0.Ops.map cGOp)], .c (.int .i64 a1), .c (.int .i64 a2)] (.tup [.agg [.c (.int .i64 r1.Bound), .sl 2 (r1.Nogoods.map cN)], eA r2]) := by
  refine aOf Tryz.func13 rfl (by decide) rfl (Nat.le_of_ble_eq_true rfl) ?_; intro _; unfold M_certify_Lower at h; refine aSR ?_; intro _; refine dr_XDLow ?_; refine aSq ?_; refine aSR ?_; intro _; obtain ⟨z1, u1, h⟩ := ob1_ok h; refine cl_XDLow rfl (A_task_Check a0 u1) ?_; intro _; refine dr_XDLow ?_; refine aSq ?_; rcases z1 with _ | e2
  · replace h := erM_nil h; refine aRg ?_; intro _; refine dr_XDLow ?_; refine aCd ?_; intro _; refine litF ?_; refine aSk ?_; refine aSq ?_; refine aSR ?_; intro _; obtain ⟨z3, u2, h⟩ := ob1_ok h; refine cl_XDLow rfl (A_certify_bounded a1 u2) ?_; intro _; refine dr_XDLow ?_; refine aCd ?_; intro _; refine spl h (fun c3 h => ?_) (fun c3 h => ?_)
    · refine aSR ?_; intro _; refine dr_XDLow ?_; refine aRt ?_; intro _; obtain ⟨rfl, rfl⟩ := inj2 h; exact ca_XDLow
    · refine aSk ?_; refine aSR ?_; intro _; refine dr_XDLow ?_; refine aSq ?_; refine aSR ?_; intro _; refine dr_XDLow ?_; refine aCd ?_; intro _; refine spl h (fun c4 h => ?_) (fun c4 h => ?_)
      · refine aSR ?_; intro _; refine dr_XDLow ?_; refine aRt ?_; intro _; obtain ⟨rfl, rfl⟩ := inj2 h; exact ca_XDLow
      · refine aSk ?_; refine aSR ?_; intro _; refine ⟨_, lf_min rfl (Nat.le_of_ble_eq_true rfl) rfl rfl, ?_⟩; intro _; refine ⟨_, lf_max rfl (Nat.le_of_ble_eq_true rfl) rfl rfl, ?_⟩; intro _; refine dr_XDLow ?_; refine aSR ?_; intro _; obtain ⟨z4, u5, h⟩ := ob1_ok h; refine clg_XDLow [(0, 42)] [] [] [(42, ⟨2, some ⟨68, 2, false, z4.map cF⟩⟩)] (.own 42 2 0 z4.length) rfl rfl (A_cloneF a0.Goal u5) ?_; intro _; refine dr_XDLow ?_; refine aSR ?_; intro _; refine dr_XDLow ?_; refine aSq ?_; refine aBk ?_; obtain ⟨q6, h⟩ := grd_ok h; refine awp_loop (α := Nat × Int × (List GEntry) × (List Nogood)) (fun x => mkS 136 [(1, .c (.int .i64 a1)), (2, .c (.int .i64 (max 0 (min a2 4096)))), (3, .ptr 3 0 0 0), (6, .ptr 6 0 0 0), (9, .ptr 9 0 0 0), (10, .ptr 45 0 0 0), (11, .c (.int .i64 x.2.1))] [(3, ⟨26, 4, true, [[.sl 1 (a0.Vars.map cI), .sl 1 (a0.Init.map cI), .sl 2 (a0.Goal.map cF), .sl 4 (a0.Ops.map cGOp)]]⟩), (6, ⟨31, 2, true, [[.c (.int .i64 0), .c (.slice none 0 0)]]⟩), (9, ⟨31, 2, true, [[.c (.int .i64 a1), .own 85 0 0 x.2.2.2.length]]⟩), (44, ⟨79, 3, false, x.2.2.1.map cGEntry⟩), (45, ⟨81, 1, true, [[.own 44 0 0 x.2.2.1.length]]⟩), (85, ⟨40, 2, false, x.2.2.2.map cN⟩)]) (fun x => M_certify_Lower_L3 a0 a1 a2 g x.1 x.2.1 x.2.2.1 x.2.2.2 = some (r1, r2)) (fun x => x.1) (g, 1, [{ facts := z4, dist := 0, order := 0 : GEntry }], []) h ?_ ?_
        · exact ca_XDLow
        · intro x7 h; intro _; obtain ⟨k577, m8, h⟩ := succ_of (f := fun n => M_certify_Lower_L3 a0 a1 a2 g n x7.2.1 x7.2.2.1 x7.2.2.2) rfl h; replace h : M_certify_Lower_L3 a0 a1 a2 g (k577 + 1) x7.2.1 x7.2.2.1 x7.2.2.2 = some (r1, r2) := h; rw [M_certify_Lower_L3] at h; refine aSq ?_; refine aSR ?_; intro _; obtain ⟨z578, c579, u9, h⟩ := ob2_ok h; refine clg_XDLow [(5, 44)] [] [] [(44, ⟨0, some ⟨79, 3, false, c579.map cGEntry⟩⟩)] (.c (.int .i64 z578)) rfl rfl (A_stratagem_certify_entries_Len x7.2.2.1 u9) ?_; obtain ⟨q10, h⟩ := grd_ok h; intro _; refine dr_XDLow ?_; refine aCd ?_; intro _; refine spl h (fun c11 h => ?_) (fun c11 h => ?_)
          · refine aSk ?_; refine aBk ?_; refine aSR ?_; intro _; obtain ⟨z580, c581, u12, h⟩ := ob2_ok h; refine clg_XDLow [(16, 45), (0, 44)] [] [(44, ⟨1, none⟩)] [(45, ⟨0, some ⟨81, 1, true, [[.own 44 2 0 c581.length]]⟩⟩), (44, ⟨2, some ⟨79, 3, false, c581.map cGEntry⟩⟩)] (.ifc 79 (.agg [.sl 2 (z580.facts.map cF), .c (.int .i64 z580.dist), .c (.int .i64 z580.order)])) rfl rfl (A_container_heap_Pop g c579 u12) ?_; intro _; refine ⟨_, lf_assert rfl (Nat.le_of_ble_eq_true rfl) rfl (fun _ _ => by kernel_rfl), ?_⟩; intro _; refine dr_XDLow ?_; refine aSq ?_; refine aSR ?_; intro _; obtain ⟨q13, h⟩ := grd_ok h; obtain ⟨z582, u14, h⟩ := ob1_ok h; refine clb_XDLow [85] rfl rfl (A_certify_contains z580.facts x7.2.2.2 u14) ?_; intro _; refine dr_XDLow ?_; refine aCd ?_; intro _; refine spl h (fun c15 h => ?_) (fun c15 h => ?_)
            · refine aEx ?_; refine ⟨(k577, x7.2.1, c581, x7.2.2.2), h, ltS m8, ?_⟩; exact ca_XDLow
            · refine aSk ?_; refine aSq ?_; refine aSR ?_; intro _; obtain ⟨z583, u16, h⟩ := ob1_ok h; refine cl_XDLow rfl (A_task_Holds z580.facts a0.Init u16) ?_; intro _; refine dr_XDLow ?_; refine aCd ?_; intro _; refine spl h (fun c17 h => ?_) (fun c17 h => ?_)
              · refine aSR ?_; intro _; refine dr_XDLow ?_; refine aRt ?_; intro _; obtain ⟨rfl, rfl⟩ := inj2 h; exact ca_XDLow
              · refine aSk ?_; refine aSq ?_; refine aSR ?_; intro _; refine dr_XDLow ?_; refine aCd ?_; intro _; refine spl h (fun c18 h => ?_) (fun c18 h => ?_)
                · refine aSR ?_; intro _; refine dr_XDLow ?_; refine aRt ?_; intro _; obtain ⟨rfl, rfl⟩ := inj2 h; exact ca_XDLow
                · refine aSk ?_; refine aSR ?_; intro _; obtain ⟨q19, h⟩ := grd_ok h; refine pl_XDLow ?_; refine pl_XDLow ?_; refine And.intro (by first | with_reducible assumption | (show (x7.2.2.2.length + 1) * 32 ≤ 140737488355328; with_reducible assumption) | omega | (simp; omega)) ?_; refine pe_XDLow ?_; refine dr_XDLow ?_; refine aSR ?_; intro _; refine dr_XDLow ?_; obtain ⟨o20, h, hK21⟩ := ob1_ok h; refine awp_cutT (α := Int × (List GEntry)) (fun (v720, v721) => mkS 136 [(1, .c (.int .i64 a1)), (2, .c (.int .i64 (max 0 (min a2 4096)))), (3, .ptr 3 0 0 0), (6, .ptr 6 0 0 0), (9, .ptr 9 0 0 0), (10, .ptr 45 0 0 0), (11, .c (.int .i64 v720))] [(3, ⟨26, 4, true, [[.sl 1 (a0.Vars.map cI), .sl 1 (a0.Init.map cI), .sl 2 (a0.Goal.map cF), .sl 4 (a0.Ops.map cGOp)]]⟩), (6, ⟨31, 2, true, [[.c (.int .i64 0), .c (.slice none 0 0)]]⟩), (9, ⟨31, 2, true, [[.c (.int .i64 a1), .own 85 0 0 (x7.2.2.2.length + 1)]]⟩), (44, ⟨79, 3, false, v721.map cGEntry⟩), (45, ⟨81, 1, true, [[.own 44 0 0 v721.length]]⟩), (85, ⟨40, 2, false, (x7.2.2.2 ++ [(z580.facts, z580.dist)]).map cN⟩)]) (fun v => o20 = (.inl v)) ?_ ?_
                  · refine aBk ?_; refine awp_loop (α := Nat × Int × Int × (List GEntry)) (fun x => mkS 136 [(1, .c (.int .i64 a1)), (2, .c (.int .i64 (max 0 (min a2 4096)))), (3, .ptr 3 0 0 0), (6, .ptr 6 0 0 0), (9, .ptr 9 0 0 0), (10, .ptr 45 0 0 0), (11, .c (.int .i64 x.2.1)), (12, .ptr 12 0 0 0), (88, .sl 4 (a0.Ops.map cGOp)), (89, .c (.int .i64 ((a0.Ops.map cGOp).length : Int))), (90, .c (.int .i64 x.2.2.1))] [(3, ⟨26, 4, true, [[.sl 1 (a0.Vars.map cI), .sl 1 (a0.Init.map cI), .sl 2 (a0.Goal.map cF), .sl 4 (a0.Ops.map cGOp)]]⟩), (6, ⟨31, 2, true, [[.c (.int .i64 0), .c (.slice none 0 0)]]⟩), (9, ⟨31, 2, true, [[.c (.int .i64 a1), .own 85 0 0 (x7.2.2.2.length + 1)]]⟩), (12, ⟨79, 3, true, [[.sl 2 (z580.facts.map cF), .c (.int .i64 z580.dist), .c (.int .i64 z580.order)]]⟩), (44, ⟨79, 3, false, x.2.2.2.map cGEntry⟩), (45, ⟨81, 1, true, [[.own 44 0 0 x.2.2.2.length]]⟩), (85, ⟨40, 2, false, (x7.2.2.2 ++ [(z580.facts, z580.dist)]).map cN⟩)]) (fun x => M_certify_Lower_L2 a0 a1 g z580 x.1 x.2.1 x.2.2.1 x.2.2.2 = some o20) (fun x => x.1) ((((a0.Ops.map cGOp).length : Int)).toNat + 1, x7.2.1, 0, c581) h ?_ ?_
                    · exact ca_XDLow
                    · intro x22 h; intro _; obtain ⟨k817, m23, h⟩ := succ_of (f := fun n => M_certify_Lower_L2 a0 a1 g z580 n x22.2.1 x22.2.2.1 x22.2.2.2) rfl h; replace h : M_certify_Lower_L2 a0 a1 g z580 (k817 + 1) x22.2.1 x22.2.2.1 x22.2.2.2 = some o20 := h; rw [M_certify_Lower_L2] at h; refine aSR ?_; intro _; refine dr_XDLow ?_; refine aSq ?_; refine aCd ?_; intro _; refine spl h (fun c24 h => ?_) (fun c24 h => ?_)
                      · refine aSk ?_; obtain ⟨o25, h, hK26⟩ := ob1_ok h; refine awp_cut (α := Int × (List GEntry)) (fun (v837, v838) => mkS 136 [(1, .c (.int .i64 a1)), (2, .c (.int .i64 (max 0 (min a2 4096)))), (3, .ptr 3 0 0 0), (6, .ptr 6 0 0 0), (9, .ptr 9 0 0 0), (10, .ptr 45 0 0 0), (11, .c (.int .i64 v837)), (12, .ptr 12 0 0 0), (88, .sl 4 (a0.Ops.map cGOp)), (89, .c (.int .i64 ((a0.Ops.map cGOp).length : Int))), (90, .c (.int .i64 x22.2.2.1))] [(3, ⟨26, 4, true, [[.sl 1 (a0.Vars.map cI), .sl 1 (a0.Init.map cI), .sl 2 (a0.Goal.map cF), .sl 4 (a0.Ops.map cGOp)]]⟩), (6, ⟨31, 2, true, [[.c (.int .i64 0), .c (.slice none 0 0)]]⟩), (9, ⟨31, 2, true, [[.c (.int .i64 a1), .own 85 0 0 (x7.2.2.2.length + 1)]]⟩), (12, ⟨79, 3, true, [[.sl 2 (z580.facts.map cF), .c (.int .i64 z580.dist), .c (.int .i64 z580.order)]]⟩), (44, ⟨79, 3, false, v838.map cGEntry⟩), (45, ⟨81, 1, true, [[.own 44 0 0 v838.length]]⟩), (85, ⟨40, 2, false, (x7.2.2.2 ++ [(z580.facts, z580.dist)]).map cN⟩)]) (fun v => o25 = (.inl v)) ?_ ?_
                        · refine aBk ?_; refine aSR ?_; intro _; obtain ⟨y842, w27, q28, h⟩ := ix_ok h; refine Exists.intro (cGOp y842) (And.intro (map_at' w27) ?_); intro _; refine pr_XDLow ?_; refine dr_XDLow ?_; refine aSR ?_; intro _; refine dr_XDLow ?_; obtain ⟨o29, h, hK30⟩ := ob1_ok h; refine awp_cut (α := Int) (fun v843 => mkS 136 [(1, .c (.int .i64 a1)), (2, .c (.int .i64 (max 0 (min a2 4096)))), (3, .ptr 3 0 0 0), (6, .ptr 6 0 0 0), (9, .ptr 9 0 0 0), (10, .ptr 45 0 0 0), (11, .c (.int .i64 x22.2.1)), (12, .ptr 12 0 0 0), (14, .c (.int .i64 x22.2.2.1)), (16, .c (.int .i64 v843)), (88, .sl 4 (a0.Ops.map cGOp)), (89, .c (.int .i64 ((a0.Ops.map cGOp).length : Int))), (90, .c (.int .i64 x22.2.2.1))] [(3, ⟨26, 4, true, [[.sl 1 (a0.Vars.map cI), .sl 1 (a0.Init.map cI), .sl 2 (a0.Goal.map cF), .sl 4 (a0.Ops.map cGOp)]]⟩), (6, ⟨31, 2, true, [[.c (.int .i64 0), .c (.slice none 0 0)]]⟩), (9, ⟨31, 2, true, [[.c (.int .i64 a1), .own 85 0 0 (x7.2.2.2.length + 1)]]⟩), (12, ⟨79, 3, true, [[.sl 2 (z580.facts.map cF), .c (.int .i64 z580.dist), .c (.int .i64 z580.order)]]⟩), (44, ⟨79, 3, false, x22.2.2.2.map cGEntry⟩), (45, ⟨81, 1, true, [[.own 44 0 0 x22.2.2.2.length]]⟩), (85, ⟨40, 2, false, (x7.2.2.2 ++ [(z580.facts, z580.dist)]).map cN⟩)]) (fun v => o29 = (.inl v)) ?_ ?_
                          · refine aSR ?_; intro _; refine dr_XDLow ?_; refine aCd ?_; intro _; refine spl h (fun c31 h => ?_) (fun c31 h => ?_)
                            · refine aRg ?_; intro _; refine dr_XDLow ?_; refine ⟨0, (Option.some.inj h).symm, ?_⟩; exact ca_XDLow
                            · refine aSR ?_; intro _; refine dr_XDLow ?_; refine aCd ?_; intro _; refine spl h (fun c32 h => ?_) (fun c32 h => ?_)
                              · refine aEx ?_; have j33 := Option.some.inj h; subst j33; replace h := (osum_r hK30); refine ⟨(x22.2.1, x22.2.2.2), (Option.some.inj h).symm, ?_⟩; exact ca_XDLow
                              · refine aSk ?_; refine ⟨(IntKind.i64.wrap (z580.dist + y842.Cost)), (Option.some.inj h).symm, ?_⟩; exact ca_XDLow
                          · rintro v843 ho; have ho := ho.symm; subst ho; intro _; replace h := (osum_l hK30); refine aSR ?_; intro _; obtain ⟨z845, z846, u34, h⟩ := ob2_ok h; refine cl_XDLow rfl (A_g_Regress g a0 x22.2.2.1 z580.facts u34) ?_; intro _; refine dr_XDLow ?_; refine aSq ?_; refine aSq ?_; rcases z846 with _ | e847
                            · replace h := erM_nil h; refine aRg ?_; intro _; refine dr_XDLow ?_; refine aCd ?_; intro _; refine litF ?_; refine aSk ?_; refine aSR ?_; intro _; refine dr_XDLow ?_; refine aBk ?_; refine awp_loop (α := Nat × Int × Int × (List GEntry)) (fun x => mkS 136 [(1, .c (.int .i64 a1)), (2, .c (.int .i64 (max 0 (min a2 4096)))), (3, .ptr 3 0 0 0), (6, .ptr 6 0 0 0), (9, .ptr 9 0 0 0), (10, .ptr 45 0 0 0), (11, .c (.int .i64 x.2.1)), (12, .ptr 12 0 0 0), (16, .c (.int .i64 v843)), (88, .sl 4 (a0.Ops.map cGOp)), (89, .c (.int .i64 ((a0.Ops.map cGOp).length : Int))), (90, .c (.int .i64 x22.2.2.1)), (117, .sl 1 (z845.map cL_cF)), (118, .c (.int .i64 ((z845.map cL_cF).length : Int))), (119, .c (.int .i64 x.2.2.1))] [(3, ⟨26, 4, true, [[.sl 1 (a0.Vars.map cI), .sl 1 (a0.Init.map cI), .sl 2 (a0.Goal.map cF), .sl 4 (a0.Ops.map cGOp)]]⟩), (6, ⟨31, 2, true, [[.c (.int .i64 0), .c (.slice none 0 0)]]⟩), (9, ⟨31, 2, true, [[.c (.int .i64 a1), .own 85 0 0 (x7.2.2.2.length + 1)]]⟩), (12, ⟨79, 3, true, [[.sl 2 (z580.facts.map cF), .c (.int .i64 z580.dist), .c (.int .i64 z580.order)]]⟩), (44, ⟨79, 3, false, x.2.2.2.map cGEntry⟩), (45, ⟨81, 1, true, [[.own 44 0 0 x.2.2.2.length]]⟩), (85, ⟨40, 2, false, (x7.2.2.2 ++ [(z580.facts, z580.dist)]).map cN⟩)]) (fun x => M_certify_Lower_L1 g v843 z845 x.1 x.2.1 x.2.2.1 x.2.2.2 = some o25) (fun x => x.1) ((((z845.map cL_cF).length : Int)).toNat + 1, x22.2.1, 0, x22.2.2.2) h ?_ ?_
                              · exact ca_XDLow
                              · intro x35 h; intro _; obtain ⟨k858, m36, h⟩ := succ_of (f := fun n => M_certify_Lower_L1 g v843 z845 n x35.2.1 x35.2.2.1 x35.2.2.2) rfl h; replace h : M_certify_Lower_L1 g v843 z845 (k858 + 1) x35.2.1 x35.2.2.1 x35.2.2.2 = some o25 := h; rw [M_certify_Lower_L1] at h; refine aSR ?_; intro _; refine dr_XDLow ?_; refine aSq ?_; refine aCd ?_; intro _; refine spl h (fun c37 h => ?_) (fun c37 h => ?_)
                                · refine aSk ?_; refine aSq ?_; refine aBk ?_; refine aSR ?_; intro _; obtain ⟨y859, w38, q39, h⟩ := ix_ok h; refine Exists.intro (cL_cF y859) (And.intro (map_at' w38) ?_); intro _; refine pr_XDLow ?_; refine dr_XDLow ?_; refine aSR ?_; intro _; obtain ⟨c860, u40, h⟩ := ob1_ok h; refine clg_XDLow [(14, 45), (0, 44)] [] [(44, ⟨1, none⟩)] [(45, ⟨0, some ⟨81, 1, true, [[.own 44 2 0 c860.length]]⟩⟩), (44, ⟨2, some ⟨79, 3, false, c860.map cGEntry⟩⟩)] (.tup []) rfl rfl (A_container_heap_Push g x35.2.2.2 ({ facts := y859, dist := v843, order := x35.2.1 : GEntry }) u40) ?_; intro _; refine dr_XDLow ?_; refine aRg ?_; intro _; refine dr_XDLow ?_; refine aRg ?_; intro _; refine dr_XDLow ?_; refine ⟨(k858, (IntKind.i64.wrap (x35.2.1 + 1)), (IntKind.i64.wrap (x35.2.2.1 + 1)), c860), h, ltS m36, ?_⟩; exact ca_XDLow
                                · refine aEx ?_; refine ⟨(x35.2.1, x35.2.2.2), (Option.some.inj h).symm, ?_⟩; exact ca_XDLow
                            · replace h := erM_no h; refine aRg ?_; intro _; refine dr_XDLow ?_; refine aCd ?_; intro _; refine litT ?_; refine aSR ?_; intro _; refine dr_XDLow ?_; refine aRt ?_; have j41 := Option.some.inj h; subst j41; replace h := (osum_r hK26); have j42 := Option.some.inj h; subst j42; replace h := (osum_r hK21); intro _; obtain ⟨rfl, rfl⟩ := inj2 h; exact ca_XDLow
                        · rintro ⟨v837, v838⟩ ho; have ho := ho.symm; subst ho; intro _; replace h := (osum_l hK26); refine aRg ?_; intro _; refine dr_XDLow ?_; refine ⟨(k817, v837, (IntKind.i64.wrap (x22.2.2.1 + 1)), v838), h, ltS m23, ?_⟩; exact ca_XDLow
                      · refine aEx ?_; refine ⟨(x22.2.1, x22.2.2.2), (Option.some.inj h).symm, ?_⟩; exact ca_XDLow
                  · rintro ⟨v720, v721⟩ ho; have ho := ho.symm; subst ho; intro _; replace h := (osum_l hK21); refine ⟨(k577, v720, v721, (x7.2.2.2 ++ [(z580.facts, z580.dist)])), h, ltS m8, ?_⟩; exact ca_XDLow
          · refine aEx ?_; refine aSR ?_; intro _; refine dr_XDLow ?_; refine aRt ?_; obtain ⟨q43, h⟩ := grd_ok h; intro _; obtain ⟨rfl, rfl⟩ := inj2 h; exact ca_XDLow
  · replace h := erM_no h; refine aRg ?_; intro _; refine dr_XDLow ?_; refine aCd ?_; intro _; refine litT ?_; refine aSR ?_; intro _; refine dr_XDLow ?_; refine aRt ?_; intro _; obtain ⟨rfl, rfl⟩ := inj2 h; exact ca_XDLow
def M_b_Facts_L1 (a0 : List Fact) (a1 : List Fact) : Nat → Int → Option (Bool)
  | 0, _ => none
  | k7 + 1, v6 =>
    sel (decide (v6 < ((a0.map cF).length : Int)))
     (ix a0 v6 (fun y8 =>
       ix a1 v6 (fun y9 =>
        sel (!(y8.1 == y9.1 && y8.2 == y9.2))
         (some false)
         (M_b_Facts_L1 a0 a1 k7 (IntKind.i64.wrap (v6 + 1))))))
     (some true)
def M_b_Facts (a0 : List Fact) (a1 : List Fact) : Option (Bool) :=
  sel (((a0.map cF).length : Int) != ((a1.map cF).length : Int))
   (some false)
   (M_b_Facts_L1 a0 a1 ((((a0.map cF).length : Int)).toNat + 1) 0)
theorem A_b_Facts (a0 : List Fact) (a1 : List Fact) {r1 : Bool} (h : M_b_Facts a0 a1 = some r1) : ACall cx 36 [.sl 2 (a0.map cF), .sl 2 (a1.map cF)] (.c (.bool r1)) := by
  refine aOf Tryz.func36 rfl (by decide) rfl (Nat.le_of_ble_eq_true rfl) ?_; intro _; unfold M_b_Facts at h; refine aSR ?_; intro _; refine dr_XDLow ?_; refine aSq ?_; refine aSR ?_; intro _; refine dr_XDLow ?_; refine aCd ?_; intro _; refine spl h (fun c1 h => ?_) (fun c1 h => ?_)
  · refine aSR ?_; intro _; refine dr_XDLow ?_; refine aRt ?_; intro _; obtain rfl := inj1 h; exact ca_XDLow
  · refine aSk ?_; refine aSq ?_; refine aSR ?_; intro _; refine dr_XDLow ?_; refine aBk ?_; refine awp_loop (α := Nat × Int) (fun x => mkS 26 [(0, .sl 2 (a0.map cF)), (1, .sl 2 (a1.map cF)), (12, .c (.int .i64 ((a0.map cF).length : Int))), (13, .c (.int .i64 x.2))] []) (fun x => M_b_Facts_L1 a0 a1 x.1 x.2 = some r1) (fun x => x.1) ((((a0.map cF).length : Int)).toNat + 1, 0) h ?_ ?_
    · exact ca_XDLow
    · intro x2 h; intro _; obtain ⟨k7, m3, h⟩ := succ_of (f := fun n => M_b_Facts_L1 a0 a1 n x2.2) rfl h; replace h : M_b_Facts_L1 a0 a1 (k7 + 1) x2.2 = some r1 := h; rw [M_b_Facts_L1] at h; refine aSR ?_; intro _; refine dr_XDLow ?_; refine aSq ?_; refine aCd ?_; intro _; refine spl h (fun c4 h => ?_) (fun c4 h => ?_)
      · refine aSk ?_; refine aSq ?_; refine aBk ?_; refine aSR ?_; intro _; refine dr_XDLow ?_; refine aSR ?_; intro _; obtain ⟨y8, w5, q6, h⟩ := ix_ok h; refine Exists.intro (cF y8) (And.intro (map_at' w5) ?_); intro _; obtain ⟨y9, w7, q8, h⟩ := ix_ok h; refine Exists.intro (cF y9) (And.intro (map_at' w7) ?_); intro _; refine ⟨_, lf_eq2 rfl (Nat.le_of_ble_eq_true rfl) rfl rfl (eqFact _ _ _ _) (eqFactG _ _ _ _ _ _ _) (.inr ⟨rfl, rfl⟩), ?_⟩; intro _; refine pr_XDLow ?_; refine pr_XDLow ?_; refine dr_XDLow ?_; refine aCd ?_; intro _; refine spl h (fun c9 h => ?_) (fun c9 h => ?_)
        · refine aSR ?_; intro _; refine dr_XDLow ?_; refine aRt ?_; intro _; obtain rfl := inj1 h; exact ca_XDLow
        · refine aSk ?_; refine aRg ?_; intro _; refine dr_XDLow ?_; refine ⟨(k7, (IntKind.i64.wrap (x2.2 + 1))), h, ltS m3, ?_⟩; exact ca_XDLow
      · refine aEx ?_; refine aSR ?_; intro _; refine dr_XDLow ?_; refine aRt ?_; intro _; obtain rfl := inj1 h; exact ca_XDLow
def M_l32_awake (g : Nat) : Option (Bool) :=
  ob2 (M_certify_Lower g ({ Vars := [2], Init := [0], Goal := [(0, 1)], Ops := [{ Name := (⟨#[]⟩ : ByteArray), Cost := 2, Pre := [], Effs := [{ When := [], Var := 0, Val := 1 : GEffect }] : GOp }] : GTask }) 2 10) (fun z1 z2 =>
   ob2 (M_certify_Lower g ({ Vars := [2], Init := [0], Goal := [(0, 1)], Ops := [{ Name := (⟨#[]⟩ : ByteArray), Cost := 2, Pre := [], Effs := [{ When := [], Var := 0, Val := 1 : GEffect }] : GOp }] : GTask }) 3 10) (fun _ z4 =>
    erM z2
     (sel (z1.Bound == 2)
       (sel (((z1.Nogoods.map cN).length : Int) == 1)
         (ix z1.Nogoods 0 (fun y6 =>
           ob1 (M_b_Facts y6.1 [(0, 1)]) (fun z7 =>
            sel z7
             (ob1 (M_b_Is z4 13) (fun z8 =>
               some z8))
             (some false))))
         (some false))
       (some false))
     (fun _ => some false)))
theorem A_l32_awake (g : Nat) {r1 : Bool} (h : M_l32_awake g = some r1) : ACall cx 12 [] (.c (.bool r1)) := by
  refine aOf Tryz.func12 rfl (by decide) rfl (Nat.le_of_ble_eq_true rfl) ?_; intro _; unfold M_l32_awake at h; refine aSR ?_; intro _; refine dr_XDLow ?_; refine aSR ?_; intro _; refine dr_XDLow ?_; refine aSR ?_; intro _; refine dr_XDLow ?_; refine aSq ?_; refine awp_wk (mkS 53 [(1, .sl 2 ([(0, 1)].map cF)), (2, .ptr 2 0 0 0)] [(2, ⟨26, 4, true, [[.sl 1 ([2].map cI), .sl 1 ([0].map cI), .sl 2 ([(0, 1)].map cF), .sl 4 ([{ Name := (⟨#[]⟩ : ByteArray), Cost := 2, Pre := [], Effs := [{ When := [], Var := 0, Val := 1 : GEffect }] : GOp }].map cGOp)]]⟩)]) ?_ ?_
  · exact ca_XDLow
  · intro _; refine aRg ?_; intro _; obtain ⟨z1, z2, u1, h⟩ := ob2_ok h; refine cl_XDLow rfl (A_certify_Lower g ({ Vars := [2], Init := [0], Goal := [(0, 1)], Ops := [{ Name := (⟨#[]⟩ : ByteArray), Cost := 2, Pre := [], Effs := [{ When := [], Var := 0, Val := 1 : GEffect }] : GOp }] : GTask }) 2 10 u1) ?_; intro _; refine dr_XDLow ?_; refine aSR ?_; intro _; obtain ⟨z3, z4, u2, h⟩ := ob2_ok h; refine cl_XDLow rfl (A_certify_Lower g ({ Vars := [2], Init := [0], Goal := [(0, 1)], Ops := [{ Name := (⟨#[]⟩ : ByteArray), Cost := 2, Pre := [], Effs := [{ When := [], Var := 0, Val := 1 : GEffect }] : GOp }] : GTask }) 3 10 u2) ?_; intro _; refine dr_XDLow ?_; refine aSq ?_; rcases z2 with _ | e5
    · replace h := erM_nil h; refine aRg ?_; intro _; refine litT ?_; intro _; refine spl h (fun c3 h => ?_) (fun c3 h => ?_)
      · intro _; refine spl h (fun c4 h => ?_) (fun c4 h => ?_)
        · intro _; obtain ⟨y6, w5, q6, h⟩ := ix_ok h; refine Exists.intro (cN y6) (And.intro (map_at' w5) ?_); intro _; obtain ⟨z7, u7, h⟩ := ob1_ok h; refine cl_XDLow rfl (A_b_Facts y6.1 [(0, 1)] u7) ?_; intro _; refine spl h (fun c8 h => ?_) (fun c8 h => ?_)
          · intro _; obtain ⟨z8, u9, h⟩ := ob1_ok h; refine cl_XDLow rfl (A_b_Is z4 13 u9) ?_; intro _; refine pr_XDLow ?_; refine dr_XDLow ?_; refine aRt ?_; intro _; obtain rfl := inj1 h; exact ca_XDLow
          · intro _; refine pr_XDLow ?_; refine dr_XDLow ?_; refine aRt ?_; intro _; obtain rfl := inj1 h; exact ca_XDLow
        · intro _; refine dr_XDLow ?_; refine aRt ?_; intro _; obtain rfl := inj1 h; exact ca_XDLow
      · intro _; refine dr_XDLow ?_; refine aRt ?_; intro _; obtain rfl := inj1 h; exact ca_XDLow
    · replace h := erM_no h; refine aRg ?_; intro _; refine litF ?_; intro _; refine dr_XDLow ?_; refine aRt ?_; intro _; obtain rfl := inj1 h; exact ca_XDLow
end Go.Proofs.YtohjegemooakpaaGreat.Am
/- Models printed by my decompiler, and the proofs that the code computes them. -/
namespace Go.Proofs.YtohjegemooakpaaGreat.Am
set_option maxHeartbeats 16000000
set_option maxRecDepth 100000
open Go.RowKit
structure GTable where
  Pattern : List Int
  Values : List Int
  Bound : Int
  deriving DecidableEq
def cGTable (x : GTable) : List AV := [.sl 1 (x.Pattern.map cI), .sl 1 (x.Values.map cI), .c (.int .i64 x.Bound)]
theorem fr_cGTable (x : GTable) : ∀ y ∈ cGTable x, Fr y := FrC_cons (.sl (frl_cI _)) (FrC_cons (.sl (frl_cI _)) (FrC_cons (.c _) (FrC_nil)))
theorem frl_cGTable (l : List GTable) : FrL (l.map cGTable) := FrL_map (fun x _ => fr_cGTable x)
instance {l : List GTable} : FrI (l.map cGTable) := ⟨frl_cGTable l⟩
theorem zb_XDTab {P : Prop} (h : P := by repeat (first | exact BWL.nil | exact bwll_nil | exact bw_c | exact BW.sl | exact BW.nil | exact bwll_same rfl FrI.h | refine BWL.cons ?_ ?_ | refine bwll_cons ?_ ?_ | (refine bw_own3 rfl rfl rfl FrI.h ?_ ?_ ?_) | exact BW.fr FrV.h | exact BW.fr (by assumption) | refine bw_agg ?_ | refine bw_clo ?_ | refine bw_ptr rfl rfl rfl ?_ | (refine bw_own rfl rfl rfl ?_ FrI.h ?_ ?_) | assumption | omega | rfl | (rw [List.length_map, ← List.length_append]; assumption) | (refine bwll_same ?_ FrI.h; (simp [cGTask, cI, cF, cGOp, cGEffect, cGTable, cGCertificate, cN, cL_cI] <;> fail)) | (rw [List.map_set]; refine bwll_set (by first | rfl | omega | simp) ?_ ?_) | refine bwll_set (by first | rfl | omega | simp) ?_ ?_ | (rw [List.map_replicate]; refine bwll_rep ?_) | refine bwll_rep ?_ | (rw [List.map_append]; refine bwll_append ?_ ?_) | refine bwll_append ?_ ?_ | (simp [cGTask, cI, cF, cGOp, cGEffect, cGTable, cGCertificate, cN, cL_cI, take_len_map] <;> fail) | (rw [List.drop_zero, List.take_of_length_le] <;> first | rfl | (simp [cGTask, cI, cF, cGOp, cGEffect, cGTable, cGCertificate, cN, cL_cI] <;> fail)) | (simp; omega) | (simp only [List.length_map, List.length_append, List.drop_zero, List.length_cons, List.length_nil, Nat.zero_add, Nat.add_zero] at *; omega))) : P := h
theorem ci_XDTab {p K : Prop} (k : K) (h : p := by first | rfl | exact ⟨rfl, rfl⟩ | exact BW.fr FrV.h | (refine BW.fr ?_; assumption) | (refine ⟨rfl, ?_⟩; (simp [cGTask, cI, cF, cGOp, cGEffect, cGTable, cGCertificate, cN, cL_cI, take_len_map]; done)) | (refine RowK.same ?_ FrI.h; first | rfl | (simp [cGTask, cI, cF, cGOp, cGEffect, cGTable, cGCertificate, cN, cL_cI, take_len_map]; done)) | (refine row_part1 ?_; (exact zb_XDTab); done) | ((exact zb_XDTab); done) | (simp [cGTask, cI, cF, cGOp, cGEffect, cGTable, cGCertificate, cN, cL_cI, take_len_map]; done)) : p ∧ K := ⟨h, k⟩
theorem ca_XDTab {P : Prop} (h : P := by repeat (first | exact True.intro | refine ci_XDTab ?_)) : P := h
theorem pr_XDTab {p K : Prop} (k : K) (h : p := by first | assumption | exact Int.natCast_nonneg _ | exact Nat.le_refl _ | exact Nat.zero_le _ | omega | (simp; done) | (simp; omega)) : p ∧ K := ⟨h, k⟩
theorem pl_XDTab {p K : Prop} (k : K) (h : p := by first | rfl | exact List.length_map _ | (simp; done) | (simp; omega)) : p ∧ K := ⟨h, k⟩
theorem pe_XDTab {p K : Prop} (k : K) (h : p := by first | omega | (simp; omega) | (simp only [List.length_map, List.length_cons, List.length_nil, List.length_append]; omega) | (simp only [List.length_map, List.drop_zero, List.length_cons, List.length_nil, Nat.zero_add, Nat.add_zero] at *; omega)) : p ∧ K := ⟨h, k⟩
theorem dr_XDTab {b : Bool} {p K : Prop} (k : K) (h : b = true → p := by intro h; first | (cases h; done) | exact ⟨by kernel_rfl, by kernel_rfl⟩) : (b = true → p) ∧ K := ⟨h, k⟩
theorem cl_XDTab {C : Cx} {n : Nat} {o : Oper} {τ : Nat → AV} {η : Nat → Ent} {f : FuncId} {os : Array Operand} {ats : Array TypeId} {r : AV} {args : List AV} {K : Foot → Prop} (ho : o.op = .call ⟨.value (.func f), os, ats⟩) (hc : ACall C f args r) (k : K ⟨r, [], []⟩)
    (hd : InB n o.dst := by exact Nat.le_of_ble_eq_true rfl) (hargs : os.toList.map (evA τ) = args := by first | rfl | (simp [cGTask, cI, cF, cGOp, cGEffect, cGTable, cGCertificate, cN, cL_cI]; done) | (repeat (first | exact rfl | refine cons_eq ?_ ?_ | exact sl_dt rfl))) (hfr : frs args := by repeat (first | exact trivial | exact fr1_eA _ | exact fr0_eA _ | exact fr1_fr (by assumption) | exact FrV.h | refine And.intro ?_ ?_)) (hr : fr1 r := by repeat (first | exact trivial | exact fr1_eA _ | exact fr0_eA _ | exact fr1_fr (by assumption) | exact FrV.h | refine And.intro ?_ ?_)) : ∃ f : Foot, LF C n o τ η f ∧ K f := ⟨_, lf_call ho hd hargs hc hfr hr, k⟩
theorem clc_XDTab {C : Cx} {n : Nat} {o : Oper} {τ : Nat → AV} {η : Nat → Ent} {c : Operand} {os : Array Operand} {ats : Array TypeId} {r F : AV} {xs : List AV} {K : Foot → Prop} (ho : o.op = .call ⟨.value c, os, ats⟩) (hc : CCl C F xs r) (hfF : Fr F) (k : K ⟨r, [], []⟩)
    (hd : InB n o.dst := by exact Nat.le_of_ble_eq_true rfl) (hF : evA τ c = F := by rfl) (hargs : os.toList.map (evA τ) = xs := by first | rfl | (simp [cGTask, cI, cF, cGOp, cGEffect, cGTable, cGCertificate, cN, cL_cI]; done) | (repeat (first | exact rfl | refine cons_eq ?_ ?_ | exact sl_dt rfl))) (hfr : frs xs := by repeat (first | exact trivial | exact fr1_eA _ | exact fr0_eA _ | exact fr1_fr (by assumption) | exact FrV.h | refine And.intro ?_ ?_)) (hr : fr1 r := by repeat (first | exact trivial | exact fr1_eA _ | exact fr0_eA _ | exact fr1_fr (by assumption) | exact FrV.h | refine And.intro ?_ ?_)) : ∃ f : Foot, LF C n o τ η f ∧ K f := ⟨_, lf_clo ho hd hF hargs hc hfF hfr hr, k⟩
theorem clb_XDTab {C : Cx} {n : Nat} {o : Oper} {τ : Nat → AV} {η : Nat → Ent} {f : FuncId} {os : Array Operand} {ats : Array TypeId} {r : AV} {xs ys : List AV} {K : Foot → Prop} (bs : List Nat) (ho : o.op = .call ⟨.value (.func f), os, ats⟩) (hargs : os.toList.map (evA τ) = xs) (hc : ACall C f ys r) (k : K ⟨r, [], bs⟩)
    (hd : InB n o.dst := by exact Nat.le_of_ble_eq_true rfl) (hb : BWL η (dropB η bs) xs ys := by exact zb_XDTab) (hr : scal r := by repeat (first | exact trivial | exact scal0_eA _ | exact scal_eA _ | refine And.intro ?_ ?_)) : ∃ f : Foot, LF C n o τ η f ∧ K f := ⟨_, lf_callB bs ho hd hargs hb hc hr, k⟩
def M_s_IndexFunc_int_L1 (a0 : List Int) (a1 : Int → Option Bool) : Nat → Int → Option (Int)
  | 0, _ => none
  | k7 + 1, v6 =>
    sel (decide (v6 < ((a0.map cI).length : Int)))
     (ix a0 v6 (fun y8 =>
       ob1 (a1 y8) (fun z9 =>
        sel z9
         (some v6)
         (M_s_IndexFunc_int_L1 a0 a1 k7 (IntKind.i64.wrap (v6 + 1))))))
     (some (-1))
def M_s_IndexFunc_int (a0 : List Int) (a1 : Int → Option Bool) : Option (Int) :=
  M_s_IndexFunc_int_L1 a0 a1 ((((a0.map cI).length : Int)).toNat + 1) 0
theorem A_s_IndexFunc_int (a0 : List Int) (a1 : Int → Option Bool) (Fa1 : AV) (hFa1 : Fr Fa1) (ea1 : ∃ f fs cap, Fa1 = .clo (.func f) fs cap) (ha1 : ∀ (x0 : Int) (y0 : Bool), a1 x0 = some y0 → CCl cx Fa1 [.c (.int .i64 x0)] (.c (.bool y0))) {r1 : Int} (h : M_s_IndexFunc_int a0 a1 = some r1) : ACall cx 82 [.sl 1 (a0.map cI), Fa1] (.c (.int .i64 r1)) := by
  obtain ⟨fa1, sa1, qa1, rfl⟩ := ea1; refine aOf Tryz.func82 rfl (by decide) rfl (Nat.le_of_ble_eq_true rfl) ?_; intro _; unfold M_s_IndexFunc_int at h; refine aSR ?_; intro _; refine dr_XDTab ?_; refine aSq ?_; refine aSR ?_; intro _; refine dr_XDTab ?_; refine aBk ?_; refine awp_loop (α := Nat × Int) (fun x => mkS 19 [(0, .sl 1 (a0.map cI)), (1, .clo (.func fa1) sa1 qa1), (7, .c (.int .i64 ((a0.map cI).length : Int))), (8, .c (.int .i64 x.2))] []) (fun x => M_s_IndexFunc_int_L1 a0 a1 x.1 x.2 = some r1) (fun x => x.1) ((((a0.map cI).length : Int)).toNat + 1, 0) h ?_ ?_
  · exact ca_XDTab
  · intro x1 h; intro _; obtain ⟨k7, m2, h⟩ := succ_of (f := fun n => M_s_IndexFunc_int_L1 a0 a1 n x1.2) rfl h; replace h : M_s_IndexFunc_int_L1 a0 a1 (k7 + 1) x1.2 = some r1 := h; rw [M_s_IndexFunc_int_L1] at h; refine aSR ?_; intro _; refine dr_XDTab ?_; refine aSq ?_; refine aCd ?_; intro _; refine spl h (fun c3 h => ?_) (fun c3 h => ?_)
    · refine aSk ?_; refine aSq ?_; refine aBk ?_; refine aSR ?_; intro _; refine dr_XDTab ?_; refine aSR ?_; intro _; obtain ⟨y8, w4, q5, h⟩ := ix_ok h; refine Exists.intro (cI y8) (And.intro (map_at' w4) ?_); intro _; obtain ⟨z9, u6, h⟩ := ob1_ok h; refine clc_XDTab rfl (ha1 _ _ u6) hFa1 ?_; intro _; refine pr_XDTab ?_; refine dr_XDTab ?_; refine aCd ?_; intro _; refine spl h (fun c7 h => ?_) (fun c7 h => ?_)
      · refine aSR ?_; intro _; refine dr_XDTab ?_; refine aRt ?_; intro _; obtain rfl := inj1 h; exact ca_XDTab
      · refine aSk ?_; refine aRg ?_; intro _; refine dr_XDTab ?_; refine ⟨(k7, (IntKind.i64.wrap (x1.2 + 1))), h, ltS m2, ?_⟩; exact ca_XDTab
    · refine aEx ?_; refine aSR ?_; intro _; refine dr_XDTab ?_; refine aRt ?_; intro _; obtain rfl := inj1 h; exact ca_XDTab
def M_s_ContainsFunc_int (a0 : List Int) (a1 : Int → Option Bool) : Option (Bool) :=
  ob1 (M_s_IndexFunc_int a0 a1) (fun z1 =>
   some (decide (z1 ≥ 0)))
theorem A_s_ContainsFunc_int (a0 : List Int) (a1 : Int → Option Bool) (Fa1 : AV) (hFa1 : Fr Fa1) (ea1 : ∃ f fs cap, Fa1 = .clo (.func f) fs cap) (ha1 : ∀ (x0 : Int) (y0 : Bool), a1 x0 = some y0 → CCl cx Fa1 [.c (.int .i64 x0)] (.c (.bool y0))) {r1 : Bool} (h : M_s_ContainsFunc_int a0 a1 = some r1) : ACall cx 50 [.sl 1 (a0.map cI), Fa1] (.c (.bool r1)) := by
  obtain ⟨fa1, sa1, qa1, rfl⟩ := ea1; refine aOf Tryz.func50 rfl (by decide) rfl (Nat.le_of_ble_eq_true rfl) ?_; intro _; unfold M_s_ContainsFunc_int at h; refine aSR ?_; intro _; refine dr_XDTab ?_; refine aSR ?_; intro _; obtain ⟨z1, u1, h⟩ := ob1_ok h; refine cl_XDTab rfl (A_s_IndexFunc_int a0 a1 (.clo (.func fa1) sa1 qa1) hFa1 ⟨_, _, _, rfl⟩ ha1 u1) ?_; intro _; refine dr_XDTab ?_; refine aRt ?_; intro _; obtain rfl := inj1 h; exact ca_XDTab
def M_certify_FromTable_1 (a0 : Int) : Option (Bool) :=
  sel (decide (a0 < 0))
   (some true)
   (some (decide (a0 > 1125899906842624)))
theorem A_certify_FromTable_1 (a0 : Int) {r1 : Bool} (h : M_certify_FromTable_1 a0 = some r1) : ACall cx 51 [.c (.int .i64 a0)] (.c (.bool r1)) := by
  refine aOf Tryz.func51 rfl (by decide) rfl (Nat.le_of_ble_eq_true rfl) ?_; intro _; unfold M_certify_FromTable_1 at h; refine aSR ?_; intro _; refine dr_XDTab ?_; refine aSR ?_; intro _; refine spf h (fun c1 h => ?_) (fun c1 h => ?_)
  · intro _; refine dr_XDTab ?_; refine aRt ?_; intro _; obtain rfl := inj1 h; exact ca_XDTab
  · intro _; refine dr_XDTab ?_; refine aRt ?_; intro _; obtain rfl := inj1 h; exact ca_XDTab
def M_certify_combination_L1 (a0 : GTask) (a1 : List Int) : Nat → Int → Int → (List Fact) → Option (List Fact)
  | 0, _, _, _ => none
  | k15 + 1, v12, v13, v14 =>
    sel (decide (v13 ≥ 0))
     (ix a1 v13 (fun y16 =>
       ix a0.Vars y16 (fun y17 =>
        ix a1 v13 (fun y18 =>
         ixn v14 ((v13).toNat) (fun _ =>
          grd (y17 ≠ 0) (grd (v13 < ((v14.length : Nat) : Int)) (M_certify_combination_L1 a0 a1 k15 (IntKind.i64.wrap (v12.tdiv y17)) (IntKind.i64.wrap (v13 - 1)) (v14.set ((v13).toNat) (y18, (v12.tmod y17))))))))))
     (grd (v14.length ≤ 140737488355328) (some v14))
def M_certify_combination (g : Nat) (a0 : GTask) (a1 : List Int) (a2 : Int) : Option (List Fact) :=
  grd (0 ≤ ((a1.map cI).length : Int)) (grd (((a1.map cI).length : Int) * 16 ≤ 281474976710656) (M_certify_combination_L1 a0 a1 g a2 (IntKind.i64.wrap (((a1.map cI).length : Int) - 1)) (List.replicate ((a1.map cI).length : Int).toNat (0, 0))))
theorem A_certify_combination (g : Nat) (a0 : GTask) (a1 : List Int) (a2 : Int) {r1 : List Fact} (h : M_certify_combination g a0 a1 a2 = some r1) : ACall cx 52 [.agg [.sl 1 (a0.Vars.map cI), .sl 1 (a0.Init.map cI), .sl 2 (a0.Goal.map cF), .sl 4 (a0.Ops.map cGOp)], .sl 1 (a1.map cI), .c (.int .i64 a2)] (.sl 2 (r1.map cF)) := by
  refine aOf Tryz.func52 rfl (by decide) rfl (Nat.le_of_ble_eq_true rfl) ?_; intro _; unfold M_certify_combination at h; refine aSR ?_; intro _; refine dr_XDTab ?_; refine aSR ?_; intro _; obtain ⟨q1, h⟩ := grd_ok h; obtain ⟨q2, h⟩ := grd_ok h; refine ⟨_, lf_make rfl rfl (Nat.le_of_ble_eq_true rfl) (tyTab_ok 23 _ rfl) rfl (tyTab_ok 68 _ rfl) rfl rfl rfl (by first | assumption | omega) (by first | assumption | (show _ * (16 : Int) ≤ _; omega) | omega) (by omega) rfl (by simp only [Value.cells]; simp [Value.oneCell']) (by decide), ?_⟩; intro _; refine dr_XDTab ?_; refine aSq ?_; refine aSR ?_; intro _; refine dr_XDTab ?_; refine aBk ?_; refine awp_loop (α := Nat × Int × Int × (List Fact)) (fun x => mkS 43 [(1, .sl 1 (a1.map cI)), (2, .c (.int .i64 x.2.1)), (3, .ptr 3 0 0 0), (7, .own 12 0 0 x.2.2.2.length), (8, .c (.int .i64 x.2.2.1))] [(3, ⟨26, 4, true, [[.sl 1 (a0.Vars.map cI), .sl 1 (a0.Init.map cI), .sl 2 (a0.Goal.map cF), .sl 4 (a0.Ops.map cGOp)]]⟩), (12, ⟨68, 2, false, x.2.2.2.map cF⟩)]) (fun x => M_certify_combination_L1 a0 a1 x.1 x.2.1 x.2.2.1 x.2.2.2 = some r1) (fun x => x.1) (g, a2, (IntKind.i64.wrap (((a1.map cI).length : Int) - 1)), (List.replicate ((a1.map cI).length : Int).toNat (0, 0))) h ?_ ?_
  · exact ca_XDTab
  · intro x3 h; intro _; obtain ⟨k15, m4, h⟩ := succ_of (f := fun n => M_certify_combination_L1 a0 a1 n x3.2.1 x3.2.2.1 x3.2.2.2) rfl h; replace h : M_certify_combination_L1 a0 a1 (k15 + 1) x3.2.1 x3.2.2.1 x3.2.2.2 = some r1 := h; rw [M_certify_combination_L1] at h; refine aSq ?_; refine aSR ?_; intro _; refine dr_XDTab ?_; refine aCd ?_; intro _; refine spl h (fun c5 h => ?_) (fun c5 h => ?_)
    · refine aSk ?_; refine aSq ?_; refine aBk ?_; refine aSR ?_; intro _; obtain ⟨y16, w6, q7, h⟩ := ix_ok h; refine Exists.intro (cI y16) (And.intro (map_at' w6) ?_); intro _; obtain ⟨y17, w8, q9, h⟩ := ix_ok h; refine Exists.intro (cI y17) (And.intro (map_at' w8) ?_); intro _; refine pr_XDTab ?_; refine pr_XDTab ?_; refine dr_XDTab ?_; refine aSR ?_; intro _; obtain ⟨y18, w10, q11, h⟩ := ix_ok h; refine Exists.intro (cI y18) (And.intro (map_at' w10) ?_); intro _; obtain ⟨y19, w12, h⟩ := ixn_ok h; refine Exists.intro (cF y19) (And.intro (by first | exact map_at' w12 | (have w := map_at' (f := cF) w12; simpa [cF] using w)) ?_); intro _; obtain ⟨q13, h⟩ := grd_ok h; obtain ⟨q14, h⟩ := grd_ok h; refine pr_XDTab ?_; refine ⟨rfl, ?_⟩; refine pr_XDTab ?_; refine pr_XDTab ?_; refine pr_XDTab ?_; refine dr_XDTab ?_; refine aRg ?_; intro _; refine ⟨rfl, ?_⟩; refine pr_XDTab ?_; refine dr_XDTab ?_; refine aRg ?_; intro _; refine dr_XDTab ?_; refine ⟨(k15, (IntKind.i64.wrap (x3.2.1.tdiv y17)), (IntKind.i64.wrap (x3.2.2.1 - 1)), (x3.2.2.2.set ((x3.2.2.1).toNat) (y18, (x3.2.1.tmod y17)))), h, ltS m4, ?_⟩; exact ca_XDTab
    · refine aEx ?_; refine aSR ?_; intro _; refine dr_XDTab ?_; refine aRt ?_; obtain ⟨q15, h⟩ := grd_ok h; intro _; obtain rfl := inj1 h; exact ca_XDTab
def M_certify_FromTable_L1 (a0 : GTask) (a1 : List Int) : Nat → Int → Int → Option (Int ⊕ (GCertificate × Er))
  | 0, _, _ => none
  | k32 + 1, v30, v31 =>
    sel (decide (v31 < ((a1.map cI).length : Int)))
     (ix a1 v31 (fun y33 =>
       sel (decide (y33 < 0))
        (some (.inr ({ Bound := 0, Nogoods := [] : GCertificate }, (Er.no 2))))
        (sel (decide (y33 ≥ ((a0.Vars.map cI).length : Int)))
          (some (.inr ({ Bound := 0, Nogoods := [] : GCertificate }, (Er.no 2))))
          (sel (decide (v31 > 0))
            (ix a1 (IntKind.i64.wrap (v31 - 1)) (fun y34 =>
              sel (decide (y34 ≥ y33))
               (some (.inr ({ Bound := 0, Nogoods := [] : GCertificate }, (Er.no 2))))
               (ix a0.Vars y33 (fun y35 =>
                 M_certify_FromTable_L1 a0 a1 k32 (min (IntKind.i64.wrap (v30 * y35)) 1125899906842624) (IntKind.i64.wrap (v31 + 1))))))
            (ix a0.Vars y33 (fun y36 =>
              M_certify_FromTable_L1 a0 a1 k32 (min (IntKind.i64.wrap (v30 * y36)) 1125899906842624) (IntKind.i64.wrap (v31 + 1))))))))
     (some (.inl v30))
def M_certify_FromTable_L2 (a0 : GTask) (a1 : List Int) (a2 : List Int) (a3 : Int) (g : Nat) : Nat → Int → (List Nogood) → Option (GCertificate × Er)
  | 0, _, _ => none
  | k56 + 1, v54, v55 =>
    sel (decide (v54 < ((a2.map cI).length : Int)))
     (ix a2 v54 (fun y57 =>
       ob1 (sel (decide (a3 ≥ 0))
         (sel (decide (y57 ≥ a3))
           (some (.inr ()))
           (sel (y57 == 1125899906842624)
             (some (.inr ()))
             (some (.inl ()))))
         (sel (y57 == 1125899906842624)
           (some (.inr ()))
           (some (.inl ()))) : Option (Unit ⊕ Unit))
        (osum
        (fun _ => sel (((v55.length : Nat) : Int) == 4096)
           (some ({ Bound := 0, Nogoods := [] : GCertificate }, (Er.no 5)))
           (sel (decide (a3 < 0))
             (ob1 (M_certify_combination g a0 a1 v54) (fun z59 =>
               grd ((v55.length + 1) * 32 ≤ 140737488355328) (M_certify_FromTable_L2 a0 a1 a2 a3 g k56 (IntKind.i64.wrap (v54 + 1)) (v55 ++ [(z59, 0)]))))
             (ob1 (M_certify_combination g a0 a1 v54) (fun z60 =>
               grd ((v55.length + 1) * 32 ≤ 140737488355328) (M_certify_FromTable_L2 a0 a1 a2 a3 g k56 (IntKind.i64.wrap (v54 + 1)) (v55 ++ [(z60, y57)]))))))
        (fun _ => M_certify_FromTable_L2 a0 a1 a2 a3 g k56 (IntKind.i64.wrap (v54 + 1)) v55))))
     (grd (v55.length ≤ 140737488355328) (some ({ Bound := a3, Nogoods := v55 : GCertificate }, Er.nil)))
def M_certify_FromTable (g : Nat) (a0 : GTask) (a1 : List Int) (a2 : List Int) (a3 : Int) : Option (GCertificate × Er) :=
  ob1 (M_task_Check a0) (fun z1 =>
   erM z1
    (ob1 (M_certify_FromTable_L1 a0 a1 ((((a1.map cI).length : Int)).toNat + 1) 1 0 : Option (Int ⊕ (GCertificate × Er)))
      (osum
      (fun v18 => sel (v18 != ((a2.map cI).length : Int))
         (some ({ Bound := 0, Nogoods := [] : GCertificate }, (Er.no 11)))
         (ob1 (ob1 (M_certify_bounded a3) (fun z42 =>
            sel (!z42)
             (some (.inr ({ Bound := 0, Nogoods := [] : GCertificate }, (Er.no 1))))
             (ob1 (M_s_ContainsFunc_int a2 M_certify_FromTable_1) (fun z43 =>
               sel z43
                (some (.inr ({ Bound := 0, Nogoods := [] : GCertificate }, (Er.no 1))))
                (some (.inl ()))))) : Option (Unit ⊕ (GCertificate × Er)))
           (osum
           (fun _ => M_certify_FromTable_L2 a0 a1 a2 a3 g ((((a2.map cI).length : Int)).toNat + 1) 0 [])
           (fun (r39, r40) => some (r39, r40)))))
      (fun (r19, r20) => some (r19, r20))))
    (fun e2 => some ({ Bound := 0, Nogoods := [] : GCertificate }, (Er.no e2))))
theorem A_certify_FromTable (g : Nat) (a0 : GTask) (a1 : List Int) (a2 : List Int) (a3 : Int) {r1 : GCertificate} {r2 : Er} (h : M_certify_FromTable g a0 a1 a2 a3 = some (r1, r2)) : ACall cx 21 [.agg [.sl 1 (a0.Vars.map cI), .sl 1 (a0.Init.map cI), .sl 2 (a0.Goal.map cF), .sl 4 (a0.Ops.map cGOp)], .sl 1 (a1.map cI), .sl 1 (a2.map cI), .c (.int .i64 a3)] (.tup [.agg [.c (.int .i64 r1.Bound), .sl 2 (r1.Nogoods.map cN)], eA r2]) := by
  refine aOf Tryz.func21 rfl (by decide) rfl (Nat.le_of_ble_eq_true rfl) ?_; intro _; unfold M_certify_FromTable at h; refine aSR ?_; intro _; refine dr_XDTab ?_; refine aSq ?_; refine aSR ?_; intro _; obtain ⟨z1, u1, h⟩ := ob1_ok h; refine cl_XDTab rfl (A_task_Check a0 u1) ?_; intro _; refine dr_XDTab ?_; refine aSq ?_; rcases z1 with _ | e2
  · replace h := erM_nil h; refine aRg ?_; intro _; refine dr_XDTab ?_; refine aCd ?_; intro _; refine litF ?_; refine aSk ?_; refine aSR ?_; intro _; refine dr_XDTab ?_; obtain ⟨o2, h, hK3⟩ := ob1_ok h; refine awp_cut (α := Int) (fun v18 => mkS 119 [(1, .sl 1 (a1.map cI)), (2, .sl 1 (a2.map cI)), (3, .c (.int .i64 a3)), (4, .ptr 4 0 0 0), (8, .ptr 8 0 0 0), (11, .c (.int .i64 v18))] [(4, ⟨26, 4, true, [[.sl 1 (a0.Vars.map cI), .sl 1 (a0.Init.map cI), .sl 2 (a0.Goal.map cF), .sl 4 (a0.Ops.map cGOp)]]⟩), (8, ⟨31, 2, true, [[.c (.int .i64 0), .c (.slice none 0 0)]]⟩)]) (fun v => o2 = (.inl v)) ?_ ?_
    · refine aSR ?_; intro _; refine dr_XDTab ?_; refine aBk ?_; refine awp_loop (α := Nat × Int × Int) (fun x => mkS 119 [(1, .sl 1 (a1.map cI)), (2, .sl 1 (a2.map cI)), (3, .c (.int .i64 a3)), (4, .ptr 4 0 0 0), (8, .ptr 8 0 0 0), (11, .c (.int .i64 x.2.1)), (23, .sl 1 (a1.map cI)), (24, .c (.int .i64 ((a1.map cI).length : Int))), (25, .c (.int .i64 x.2.2))] [(4, ⟨26, 4, true, [[.sl 1 (a0.Vars.map cI), .sl 1 (a0.Init.map cI), .sl 2 (a0.Goal.map cF), .sl 4 (a0.Ops.map cGOp)]]⟩), (8, ⟨31, 2, true, [[.c (.int .i64 0), .c (.slice none 0 0)]]⟩)]) (fun x => M_certify_FromTable_L1 a0 a1 x.1 x.2.1 x.2.2 = some o2) (fun x => x.1) ((((a1.map cI).length : Int)).toNat + 1, 1, 0) h ?_ ?_
      · exact ca_XDTab
      · intro x4 h; intro _; obtain ⟨k32, m5, h⟩ := succ_of (f := fun n => M_certify_FromTable_L1 a0 a1 n x4.2.1 x4.2.2) rfl h; replace h : M_certify_FromTable_L1 a0 a1 (k32 + 1) x4.2.1 x4.2.2 = some o2 := h; rw [M_certify_FromTable_L1] at h; refine aSR ?_; intro _; refine dr_XDTab ?_; refine aSq ?_; refine aCd ?_; intro _; refine spl h (fun c6 h => ?_) (fun c6 h => ?_)
        · refine aSk ?_; refine aSq ?_; refine aBk ?_; refine aSR ?_; intro _; obtain ⟨y33, w7, q8, h⟩ := ix_ok h; refine Exists.intro (cI y33) (And.intro (map_at' w7) ?_); intro _; refine pr_XDTab ?_; refine dr_XDTab ?_; refine aSq ?_; refine aSR ?_; intro _; refine spf h (fun c9 h => ?_) (fun c9 h => ?_)
          · intro _; refine spf h (fun c10 h => ?_) (fun c10 h => ?_)
            · intro _; refine spl h (fun c11 h => ?_) (fun c11 h => ?_)
              · intro _; obtain ⟨y34, w12, q13, h⟩ := ix_ok h; refine Exists.intro (cI y34) (And.intro (map_at' w12) ?_); intro _; refine pr_XDTab ?_; refine dr_XDTab ?_; refine aCd ?_; intro _; refine spl h (fun c14 h => ?_) (fun c14 h => ?_)
                · refine aSR ?_; intro _; refine dr_XDTab ?_; refine aRt ?_; have j15 := Option.some.inj h; subst j15; replace h := (osum_r hK3); intro _; obtain ⟨rfl, rfl⟩ := inj2 h; exact ca_XDTab
                · refine aSk ?_; refine aRg ?_; intro _; obtain ⟨y35, w16, q17, h⟩ := ix_ok h; refine Exists.intro (cI y35) (And.intro (map_at' w16) ?_); intro _; refine ⟨_, lf_min rfl (Nat.le_of_ble_eq_true rfl) rfl rfl, ?_⟩; intro _; refine pr_XDTab ?_; refine dr_XDTab ?_; refine aRg ?_; intro _; refine dr_XDTab ?_; refine ⟨(k32, (min (IntKind.i64.wrap (x4.2.1 * y35)) 1125899906842624), (IntKind.i64.wrap (x4.2.2 + 1))), h, ltS m5, ?_⟩; exact ca_XDTab
              · intro _; refine dr_XDTab ?_; refine aCd ?_; intro _; refine litF ?_; refine aSk ?_; refine aRg ?_; intro _; obtain ⟨y36, w18, q19, h⟩ := ix_ok h; refine Exists.intro (cI y36) (And.intro (map_at' w18) ?_); intro _; refine ⟨_, lf_min rfl (Nat.le_of_ble_eq_true rfl) rfl rfl, ?_⟩; intro _; refine pr_XDTab ?_; refine dr_XDTab ?_; refine aRg ?_; intro _; refine dr_XDTab ?_; refine ⟨(k32, (min (IntKind.i64.wrap (x4.2.1 * y36)) 1125899906842624), (IntKind.i64.wrap (x4.2.2 + 1))), h, ltS m5, ?_⟩; exact ca_XDTab
            · intro _; refine dr_XDTab ?_; refine aCd ?_; intro _; refine litT ?_; refine aSR ?_; intro _; refine dr_XDTab ?_; refine aRt ?_; have j20 := Option.some.inj h; subst j20; replace h := (osum_r hK3); intro _; obtain ⟨rfl, rfl⟩ := inj2 h; exact ca_XDTab
          · intro _; refine dr_XDTab ?_; refine aCd ?_; intro _; refine litT ?_; refine aSR ?_; intro _; refine dr_XDTab ?_; refine aRt ?_; have j21 := Option.some.inj h; subst j21; replace h := (osum_r hK3); intro _; obtain ⟨rfl, rfl⟩ := inj2 h; exact ca_XDTab
        · refine aEx ?_; refine ⟨x4.2.1, (Option.some.inj h).symm, ?_⟩; exact ca_XDTab
    · rintro v18 ho; have ho := ho.symm; subst ho; intro _; replace h := (osum_l hK3); refine aSq ?_; refine aSR ?_; intro _; refine dr_XDTab ?_; refine aCd ?_; intro _; refine spl h (fun c22 h => ?_) (fun c22 h => ?_)
      · refine aSR ?_; intro _; refine dr_XDTab ?_; refine aRt ?_; intro _; obtain ⟨rfl, rfl⟩ := inj2 h; exact ca_XDTab
      · refine aSk ?_; obtain ⟨o23, h, hK24⟩ := ob1_ok h; refine awp_cut (α := Unit) (fun _ => mkS 119 [(1, .sl 1 (a1.map cI)), (2, .sl 1 (a2.map cI)), (3, .c (.int .i64 a3)), (4, .ptr 4 0 0 0), (8, .ptr 8 0 0 0)] [(4, ⟨26, 4, true, [[.sl 1 (a0.Vars.map cI), .sl 1 (a0.Init.map cI), .sl 2 (a0.Goal.map cF), .sl 4 (a0.Ops.map cGOp)]]⟩), (8, ⟨31, 2, true, [[.c (.int .i64 0), .c (.slice none 0 0)]]⟩)]) (fun v => o23 = (.inl v)) ?_ ?_
        · refine aSR ?_; intro _; obtain ⟨z42, u25, h⟩ := ob1_ok h; refine cl_XDTab rfl (A_certify_bounded a3 u25) ?_; intro _; refine spf h (fun c26 h => ?_) (fun c26 h => ?_)
          · intro _; obtain ⟨z43, u27, h⟩ := ob1_ok h; refine clb_XDTab [] rfl rfl (A_s_ContainsFunc_int a2 M_certify_FromTable_1 (.clo (.func 51) [] []) (Fr.clo FrC_nil FrE.h) ⟨_, _, _, rfl⟩ (fun x0 y0 hx => ⟨51, [], _, rfl, A_certify_FromTable_1 x0 hx⟩) u27) ?_; intro _; refine dr_XDTab ?_; refine aCd ?_; intro _; refine spl h (fun c28 h => ?_) (fun c28 h => ?_)
            · refine aSR ?_; intro _; refine dr_XDTab ?_; refine aRt ?_; have j29 := Option.some.inj h; subst j29; replace h := (osum_r hK24); intro _; obtain ⟨rfl, rfl⟩ := inj2 h; exact ca_XDTab
            · refine aSk ?_; refine ⟨(), (Option.some.inj h).symm, ?_⟩; exact ca_XDTab
          · intro _; refine dr_XDTab ?_; refine aCd ?_; intro _; refine litT ?_; refine aSR ?_; intro _; refine dr_XDTab ?_; refine aRt ?_; have j30 := Option.some.inj h; subst j30; replace h := (osum_r hK24); intro _; obtain ⟨rfl, rfl⟩ := inj2 h; exact ca_XDTab
        · rintro _ ho; have ho := ho.symm; subst ho; intro _; replace h := (osum_l hK24); refine aSR ?_; intro _; refine dr_XDTab ?_; refine aSq ?_; refine aSR ?_; intro _; refine dr_XDTab ?_; refine aBk ?_; refine awp_loop (α := Nat × Int × (List Nogood)) (fun x => mkS 119 [(1, .sl 1 (a1.map cI)), (3, .c (.int .i64 a3)), (4, .ptr 4 0 0 0), (8, .ptr 8 0 0 0), (14, .ptr 14 0 0 0), (80, .sl 1 (a2.map cI)), (81, .c (.int .i64 ((a2.map cI).length : Int))), (82, .c (.int .i64 x.2.1))] [(4, ⟨26, 4, true, [[.sl 1 (a0.Vars.map cI), .sl 1 (a0.Init.map cI), .sl 2 (a0.Goal.map cF), .sl 4 (a0.Ops.map cGOp)]]⟩), (8, ⟨31, 2, true, [[.c (.int .i64 0), .c (.slice none 0 0)]]⟩), (14, ⟨31, 2, true, [[.c (.int .i64 a3), .own 115 0 0 x.2.2.length]]⟩), (115, ⟨40, 2, false, x.2.2.map cN⟩)]) (fun x => M_certify_FromTable_L2 a0 a1 a2 a3 g x.1 x.2.1 x.2.2 = some (r1, r2)) (fun x => x.1) ((((a2.map cI).length : Int)).toNat + 1, 0, []) h ?_ ?_
          · exact ca_XDTab
          · intro x31 h; intro _; obtain ⟨k56, m32, h⟩ := succ_of (f := fun n => M_certify_FromTable_L2 a0 a1 a2 a3 g n x31.2.1 x31.2.2) rfl h; replace h : M_certify_FromTable_L2 a0 a1 a2 a3 g (k56 + 1) x31.2.1 x31.2.2 = some (r1, r2) := h; rw [M_certify_FromTable_L2] at h; refine aSR ?_; intro _; refine dr_XDTab ?_; refine aSq ?_; refine aCd ?_; intro _; refine spl h (fun c33 h => ?_) (fun c33 h => ?_)
            · refine aSk ?_; refine aSq ?_; refine aBk ?_; refine aSR ?_; intro _; obtain ⟨y57, w34, q35, h⟩ := ix_ok h; refine Exists.intro (cI y57) (And.intro (map_at' w34) ?_); intro _; refine pr_XDTab ?_; refine dr_XDTab ?_; obtain ⟨o36, h, hK37⟩ := ob1_ok h; refine awp_cut (α := Unit) (fun _ => mkS 119 [(1, .sl 1 (a1.map cI)), (3, .c (.int .i64 a3)), (4, .ptr 4 0 0 0), (8, .ptr 8 0 0 0), (14, .ptr 14 0 0 0), (15, .c (.int .i64 x31.2.1)), (16, .c (.int .i64 y57)), (80, .sl 1 (a2.map cI)), (81, .c (.int .i64 ((a2.map cI).length : Int))), (82, .c (.int .i64 x31.2.1)), (95, .c (.int .i64 y57)), (96, .c (.bool (y57 == 1125899906842624)))] [(4, ⟨26, 4, true, [[.sl 1 (a0.Vars.map cI), .sl 1 (a0.Init.map cI), .sl 2 (a0.Goal.map cF), .sl 4 (a0.Ops.map cGOp)]]⟩), (8, ⟨31, 2, true, [[.c (.int .i64 0), .c (.slice none 0 0)]]⟩), (14, ⟨31, 2, true, [[.c (.int .i64 a3), .own 115 0 0 x31.2.2.length]]⟩), (115, ⟨40, 2, false, x31.2.2.map cN⟩)]) (fun v => o36 = (.inl v)) ?_ ?_
              · refine aSR ?_; intro _; refine spl h (fun c38 h => ?_) (fun c38 h => ?_)
                · intro _; refine spf h (fun c39 h => ?_) (fun c39 h => ?_)
                  · intro _; refine dr_XDTab ?_; refine aCd ?_; intro _; refine spl h (fun c40 h => ?_) (fun c40 h => ?_)
                    · refine aEx ?_; have j41 := Option.some.inj h; subst j41; replace h := (osum_r hK37); refine aRg ?_; intro _; refine dr_XDTab ?_; refine ⟨(k56, (IntKind.i64.wrap (x31.2.1 + 1)), x31.2.2), h, ltS m32, ?_⟩; exact ca_XDTab
                    · refine aSk ?_; refine ⟨(), (Option.some.inj h).symm, ?_⟩; exact ca_XDTab
                  · intro _; refine dr_XDTab ?_; refine aCd ?_; intro _; refine litT ?_; refine aEx ?_; have j42 := Option.some.inj h; subst j42; replace h := (osum_r hK37); refine aRg ?_; intro _; refine dr_XDTab ?_; refine ⟨(k56, (IntKind.i64.wrap (x31.2.1 + 1)), x31.2.2), h, ltS m32, ?_⟩; exact ca_XDTab
                · intro _; refine dr_XDTab ?_; refine aCd ?_; intro _; refine spl h (fun c43 h => ?_) (fun c43 h => ?_)
                  · refine aEx ?_; have j44 := Option.some.inj h; subst j44; replace h := (osum_r hK37); refine aRg ?_; intro _; refine dr_XDTab ?_; refine ⟨(k56, (IntKind.i64.wrap (x31.2.1 + 1)), x31.2.2), h, ltS m32, ?_⟩; exact ca_XDTab
                  · refine aSk ?_; refine ⟨(), (Option.some.inj h).symm, ?_⟩; exact ca_XDTab
              · rintro _ ho; have ho := ho.symm; subst ho; intro _; replace h := (osum_l hK37); refine aSq ?_; refine aSR ?_; intro _; refine dr_XDTab ?_; refine aCd ?_; intro _; refine spl h (fun c45 h => ?_) (fun c45 h => ?_)
                · refine aSR ?_; intro _; refine dr_XDTab ?_; refine aRt ?_; intro _; obtain ⟨rfl, rfl⟩ := inj2 h; exact ca_XDTab
                · refine aSk ?_; refine aSq ?_; refine aSR ?_; intro _; refine dr_XDTab ?_; refine aCd ?_; intro _; refine spl h (fun c46 h => ?_) (fun c46 h => ?_)
                  · refine aRg ?_; intro _; refine dr_XDTab ?_; refine aRg ?_; intro _; obtain ⟨z59, u47, h⟩ := ob1_ok h; refine cl_XDTab rfl (A_certify_combination g a0 a1 x31.2.1 u47) ?_; intro _; obtain ⟨q48, h⟩ := grd_ok h; refine pl_XDTab ?_; refine pl_XDTab ?_; refine And.intro (by first | with_reducible assumption | (show (x31.2.2.length + 1) * 32 ≤ 140737488355328; with_reducible assumption) | omega | (simp; omega)) ?_; refine pe_XDTab ?_; refine dr_XDTab ?_; refine aRg ?_; intro _; refine dr_XDTab ?_; refine ⟨(k56, (IntKind.i64.wrap (x31.2.1 + 1)), (x31.2.2 ++ [(z59, 0)])), h, ltS m32, ?_⟩; exact ca_XDTab
                  · refine aSk ?_; refine aRg ?_; intro _; obtain ⟨z60, u49, h⟩ := ob1_ok h; refine cl_XDTab rfl (A_certify_combination g a0 a1 x31.2.1 u49) ?_; intro _; obtain ⟨q50, h⟩ := grd_ok h; refine pl_XDTab ?_; refine pl_XDTab ?_; refine And.intro (by first | with_reducible assumption | (show (x31.2.2.length + 1) * 32 ≤ 140737488355328; with_reducible assumption) | omega | (simp; omega)) ?_; refine pe_XDTab ?_; refine dr_XDTab ?_; refine aRg ?_; intro _; refine dr_XDTab ?_; refine ⟨(k56, (IntKind.i64.wrap (x31.2.1 + 1)), (x31.2.2 ++ [(z60, y57)])), h, ltS m32, ?_⟩; exact ca_XDTab
            · refine aEx ?_; refine aSR ?_; intro _; refine dr_XDTab ?_; refine aRt ?_; obtain ⟨q51, h⟩ := grd_ok h; intro _; obtain ⟨rfl, rfl⟩ := inj2 h; exact ca_XDTab
  · replace h := erM_no h; refine aRg ?_; intro _; refine dr_XDTab ?_; refine aCd ?_; intro _; refine litT ?_; refine aSR ?_; intro _; refine dr_XDTab ?_; refine aRt ?_; intro _; obtain ⟨rfl, rfl⟩ := inj2 h; exact ca_XDTab
def M_r05_large_L1 (y69 : GOp) : Nat → Bool → Int → Option (Bool)
  | 0, _, _ => none
  | k78 + 1, v76, v77 =>
    sel (decide (v77 < ((y69.Effs.map cGEffect).length : Int)))
     (ix y69.Effs v77 (fun y79 =>
       sel v76
        (M_r05_large_L1 y69 k78 true (IntKind.i64.wrap (v77 + 1)))
        (M_r05_large_L1 y69 k78 (decide (((y79.When.map cF).length : Int) > 64)) (IntKind.i64.wrap (v77 + 1)))))
     (some v76)
def M_r05_large_L2 (a0 : GTask) : Nat → Bool → Int → Option (Bool)
  | 0, _, _ => none
  | k55 + 1, v53, v54 =>
    sel (decide (v54 < ((a0.Ops.map cGOp).length : Int)))
     (ob1 (ix a0.Ops v54 (fun y69 =>
        ob1 (sel v53
          (some true)
          (sel (decide (((y69.Pre.map cF).length : Int) > 64))
            (some true)
            (some (decide (((y69.Effs.map cGEffect).length : Int) > 64)))) : Option (Bool))
         (fun v70 => M_r05_large_L1 y69 ((((y69.Effs.map cGEffect).length : Int)).toNat + 1) v70 0)) : Option (Bool))
       (fun v67 => M_r05_large_L2 a0 k55 v67 (IntKind.i64.wrap (v54 + 1))))
     (some v53)
def M_r05_large (a0 : GTask) : Option (Bool) :=
  ob1 (sel (decide (((a0.Vars.map cI).length : Int) > 64))
    (some true)
    (sel (decide (((a0.Ops.map cGOp).length : Int) > 4096))
      (some true)
      (some (decide (((a0.Goal.map cF).length : Int) > 64)))) : Option (Bool))
   (fun v1 => M_r05_large_L2 a0 ((((a0.Ops.map cGOp).length : Int)).toNat + 1) v1 0)
theorem A_r05_large (a0 : GTask) {r1 : Bool} (h : M_r05_large a0 = some r1) : ACall cx 62 [.agg [.sl 1 (a0.Vars.map cI), .sl 1 (a0.Init.map cI), .sl 2 (a0.Goal.map cF), .sl 4 (a0.Ops.map cGOp)]] (.c (.bool r1)) := by
  refine aOf Tryz.func62 rfl (by decide) rfl (Nat.le_of_ble_eq_true rfl) ?_; intro _; unfold M_r05_large at h; refine aSR ?_; intro _; refine dr_XDTab ?_; obtain ⟨o1, h, hK2⟩ := ob1_ok h; refine awp_cut (α := Bool) (fun v1 => mkS 61 [(1, .ptr 1 0 0 0), (3, .c (.bool v1))] [(1, ⟨26, 4, true, [[.sl 1 (a0.Vars.map cI), .sl 1 (a0.Init.map cI), .sl 2 (a0.Goal.map cF), .sl 4 (a0.Ops.map cGOp)]]⟩)]) (fun v => o1 = v) ?_ ?_
  · refine aRg ?_; intro _; refine spf h (fun c3 h => ?_) (fun c3 h => ?_)
    · intro _; refine spf h (fun c4 h => ?_) (fun c4 h => ?_)
      · intro _; refine dr_XDTab ?_; refine ⟨(decide (((a0.Goal.map cF).length : Int) > 64)), (Option.some.inj h).symm, ?_⟩; exact ca_XDTab
      · intro _; refine dr_XDTab ?_; refine ⟨true, (Option.some.inj h).symm, ?_⟩; exact ca_XDTab
    · intro _; refine dr_XDTab ?_; refine ⟨true, (Option.some.inj h).symm, ?_⟩; exact ca_XDTab
  · rintro v1 ho; have ho := ho.symm; subst ho; intro _; replace h := hK2; refine aSq ?_; refine aSR ?_; intro _; refine dr_XDTab ?_; refine aBk ?_; refine awp_loop (α := Nat × Bool × Int) (fun x => mkS 61 [(3, .c (.bool x.2.1)), (25, .sl 4 (a0.Ops.map cGOp)), (26, .c (.int .i64 ((a0.Ops.map cGOp).length : Int))), (27, .c (.int .i64 x.2.2))] []) (fun x => M_r05_large_L2 a0 x.1 x.2.1 x.2.2 = some r1) (fun x => x.1) ((((a0.Ops.map cGOp).length : Int)).toNat + 1, v1, 0) h ?_ ?_
    · exact ca_XDTab
    · intro x5 h; intro _; obtain ⟨k55, m6, h⟩ := succ_of (f := fun n => M_r05_large_L2 a0 n x5.2.1 x5.2.2) rfl h; replace h : M_r05_large_L2 a0 (k55 + 1) x5.2.1 x5.2.2 = some r1 := h; rw [M_r05_large_L2] at h; refine aSR ?_; intro _; refine dr_XDTab ?_; refine aSq ?_; refine aCd ?_; intro _; refine spl h (fun c7 h => ?_) (fun c7 h => ?_)
      · refine aSk ?_; obtain ⟨o8, h, hK9⟩ := ob1_ok h; refine awp_cut (α := Bool) (fun v67 => mkS 61 [(3, .c (.bool v67)), (25, .sl 4 (a0.Ops.map cGOp)), (26, .c (.int .i64 ((a0.Ops.map cGOp).length : Int))), (27, .c (.int .i64 x5.2.2))] []) (fun v => o8 = v) ?_ ?_
        · refine aBk ?_; refine aSR ?_; intro _; obtain ⟨y69, w10, q11, h⟩ := ix_ok h; refine Exists.intro (cGOp y69) (And.intro (map_at' w10) ?_); intro _; refine pr_XDTab ?_; refine dr_XDTab ?_; obtain ⟨o12, h, hK13⟩ := ob1_ok h; refine awp_cut (α := Bool) (fun v70 => mkS 61 [(3, .c (.bool v70)), (5, .ptr 5 0 0 0), (25, .sl 4 (a0.Ops.map cGOp)), (26, .c (.int .i64 ((a0.Ops.map cGOp).length : Int))), (27, .c (.int .i64 x5.2.2))] [(5, ⟨73, 4, true, [[.c (.string y69.Name), .c (.int .i64 y69.Cost), .sl 2 (y69.Pre.map cF), .sl 3 (y69.Effs.map cGEffect)]]⟩)]) (fun v => o12 = v) ?_ ?_
          · refine aRg ?_; intro _; refine spf h (fun c14 h => ?_) (fun c14 h => ?_)
            · intro _; refine spf h (fun c15 h => ?_) (fun c15 h => ?_)
              · intro _; refine dr_XDTab ?_; refine ⟨(decide (((y69.Effs.map cGEffect).length : Int) > 64)), (Option.some.inj h).symm, ?_⟩; exact ca_XDTab
              · intro _; refine dr_XDTab ?_; refine ⟨true, (Option.some.inj h).symm, ?_⟩; exact ca_XDTab
            · intro _; refine dr_XDTab ?_; refine ⟨true, (Option.some.inj h).symm, ?_⟩; exact ca_XDTab
          · rintro v70 ho; have ho := ho.symm; subst ho; intro _; replace h := hK13; refine aSR ?_; intro _; refine dr_XDTab ?_; refine aBk ?_; refine awp_loop (α := Nat × Bool × Int) (fun x => mkS 61 [(3, .c (.bool x.2.1)), (25, .sl 4 (a0.Ops.map cGOp)), (26, .c (.int .i64 ((a0.Ops.map cGOp).length : Int))), (27, .c (.int .i64 x5.2.2)), (45, .sl 3 (y69.Effs.map cGEffect)), (46, .c (.int .i64 ((y69.Effs.map cGEffect).length : Int))), (47, .c (.int .i64 x.2.2))] []) (fun x => M_r05_large_L1 y69 x.1 x.2.1 x.2.2 = some o8) (fun x => x.1) ((((y69.Effs.map cGEffect).length : Int)).toNat + 1, v70, 0) h ?_ ?_
            · exact ca_XDTab
            · intro x16 h; intro _; obtain ⟨k78, m17, h⟩ := succ_of (f := fun n => M_r05_large_L1 y69 n x16.2.1 x16.2.2) rfl h; replace h : M_r05_large_L1 y69 (k78 + 1) x16.2.1 x16.2.2 = some o8 := h; rw [M_r05_large_L1] at h; refine aSR ?_; intro _; refine dr_XDTab ?_; refine aSq ?_; refine aCd ?_; intro _; refine spl h (fun c18 h => ?_) (fun c18 h => ?_)
              · refine aSk ?_; refine aSq ?_; refine aBk ?_; refine aSR ?_; intro _; obtain ⟨y79, w19, q20, h⟩ := ix_ok h; refine Exists.intro (cGEffect y79) (And.intro (map_at' w19) ?_); intro _; refine pr_XDTab ?_; refine dr_XDTab ?_; refine aRg ?_; intro _; refine spf h (fun c21 h => ?_) (fun c21 h => ?_)
                · intro _; refine dr_XDTab ?_; refine aRg ?_; intro _; refine dr_XDTab ?_; refine ⟨(k78, (decide (((y79.When.map cF).length : Int) > 64)), (IntKind.i64.wrap (x16.2.2 + 1))), h, ltS m17, ?_⟩; exact ca_XDTab
                · intro _; refine dr_XDTab ?_; refine aRg ?_; intro _; refine dr_XDTab ?_; refine ⟨(k78, true, (IntKind.i64.wrap (x16.2.2 + 1))), h, ltS m17, ?_⟩; exact ca_XDTab
              · refine aEx ?_; refine ⟨x16.2.1, (Option.some.inj h).symm, ?_⟩; exact ca_XDTab
        · rintro v67 ho; have ho := ho.symm; subst ho; intro _; replace h := hK9; refine aRg ?_; intro _; refine dr_XDTab ?_; refine ⟨(k55, v67, (IntKind.i64.wrap (x5.2.2 + 1))), h, ltS m6, ?_⟩; exact ca_XDTab
      · refine aEx ?_; refine aSR ?_; intro _; refine dr_XDTab ?_; refine aRt ?_; intro _; obtain rfl := inj1 h; exact ca_XDTab
def M_r05_outside_L1 (a0 : GTask) : Nat → Bool → Int → Option (Bool)
  | 0, _, _ => none
  | k17 + 1, v15, v16 =>
    sel (decide (v16 < ((a0.Vars.map cI).length : Int)))
     (ix a0.Vars v16 (fun y18 =>
       sel v15
        (M_r05_outside_L1 a0 k17 true (IntKind.i64.wrap (v16 + 1)))
        (sel (decide (y18 < 1))
          (M_r05_outside_L1 a0 k17 true (IntKind.i64.wrap (v16 + 1)))
          (M_r05_outside_L1 a0 k17 (decide (y18 > 64)) (IntKind.i64.wrap (v16 + 1))))))
     (some v15)
def M_r05_outside_L2 (a0 : GTask) : Nat → Bool → Int → Option (Bool)
  | 0, _, _ => none
  | k25 + 1, v23, v24 =>
    sel (decide (v24 < ((a0.Ops.map cGOp).length : Int)))
     (ix a0.Ops v24 (fun y26 =>
       sel v23
        (M_r05_outside_L2 a0 k25 true (IntKind.i64.wrap (v24 + 1)))
        (sel (decide (y26.Cost < 0))
          (M_r05_outside_L2 a0 k25 true (IntKind.i64.wrap (v24 + 1)))
          (M_r05_outside_L2 a0 k25 (decide (y26.Cost > 1048576)) (IntKind.i64.wrap (v24 + 1))))))
     (some v23)
def M_r05_outside (a0 : GTask) : Option (Bool) :=
  ob1 (M_r05_outside_L1 a0 ((((a0.Vars.map cI).length : Int)).toNat + 1) false 0 : Option (Bool))
   (fun v9 => M_r05_outside_L2 a0 ((((a0.Ops.map cGOp).length : Int)).toNat + 1) v9 0)
theorem A_r05_outside (a0 : GTask) {r1 : Bool} (h : M_r05_outside a0 = some r1) : ACall cx 63 [.agg [.sl 1 (a0.Vars.map cI), .sl 1 (a0.Init.map cI), .sl 2 (a0.Goal.map cF), .sl 4 (a0.Ops.map cGOp)]] (.c (.bool r1)) := by
  refine aOf Tryz.func63 rfl (by decide) rfl (Nat.le_of_ble_eq_true rfl) ?_; intro _; unfold M_r05_outside at h; refine aSR ?_; intro _; refine dr_XDTab ?_; refine aSR ?_; intro _; refine dr_XDTab ?_; obtain ⟨o1, h, hK2⟩ := ob1_ok h; refine awp_cut (α := Bool) (fun v9 => mkS 45 [(1, .ptr 1 0 0 0), (3, .c (.bool v9))] [(1, ⟨26, 4, true, [[.sl 1 (a0.Vars.map cI), .sl 1 (a0.Init.map cI), .sl 2 (a0.Goal.map cF), .sl 4 (a0.Ops.map cGOp)]]⟩)]) (fun v => o1 = v) ?_ ?_
  · refine aSR ?_; intro _; refine dr_XDTab ?_; refine aBk ?_; refine awp_loop (α := Nat × Bool × Int) (fun x => mkS 45 [(1, .ptr 1 0 0 0), (3, .c (.bool x.2.1)), (9, .sl 1 (a0.Vars.map cI)), (10, .c (.int .i64 ((a0.Vars.map cI).length : Int))), (11, .c (.int .i64 x.2.2))] [(1, ⟨26, 4, true, [[.sl 1 (a0.Vars.map cI), .sl 1 (a0.Init.map cI), .sl 2 (a0.Goal.map cF), .sl 4 (a0.Ops.map cGOp)]]⟩)]) (fun x => M_r05_outside_L1 a0 x.1 x.2.1 x.2.2 = some o1) (fun x => x.1) ((((a0.Vars.map cI).length : Int)).toNat + 1, false, 0) h ?_ ?_
    · exact ca_XDTab
    · intro x3 h; intro _; obtain ⟨k17, m4, h⟩ := succ_of (f := fun n => M_r05_outside_L1 a0 n x3.2.1 x3.2.2) rfl h; replace h : M_r05_outside_L1 a0 (k17 + 1) x3.2.1 x3.2.2 = some o1 := h; rw [M_r05_outside_L1] at h; refine aSR ?_; intro _; refine dr_XDTab ?_; refine aSq ?_; refine aCd ?_; intro _; refine spl h (fun c5 h => ?_) (fun c5 h => ?_)
      · refine aSk ?_; refine aSq ?_; refine aBk ?_; refine aSR ?_; intro _; obtain ⟨y18, w6, q7, h⟩ := ix_ok h; refine Exists.intro (cI y18) (And.intro (map_at' w6) ?_); intro _; refine pr_XDTab ?_; refine dr_XDTab ?_; refine aRg ?_; intro _; refine spf h (fun c8 h => ?_) (fun c8 h => ?_)
        · intro _; refine spf h (fun c9 h => ?_) (fun c9 h => ?_)
          · intro _; refine dr_XDTab ?_; refine aRg ?_; intro _; refine dr_XDTab ?_; refine ⟨(k17, (decide (y18 > 64)), (IntKind.i64.wrap (x3.2.2 + 1))), h, ltS m4, ?_⟩; exact ca_XDTab
          · intro _; refine dr_XDTab ?_; refine aRg ?_; intro _; refine dr_XDTab ?_; refine ⟨(k17, true, (IntKind.i64.wrap (x3.2.2 + 1))), h, ltS m4, ?_⟩; exact ca_XDTab
        · intro _; refine dr_XDTab ?_; refine aRg ?_; intro _; refine dr_XDTab ?_; refine ⟨(k17, true, (IntKind.i64.wrap (x3.2.2 + 1))), h, ltS m4, ?_⟩; exact ca_XDTab
      · refine aEx ?_; refine ⟨x3.2.1, (Option.some.inj h).symm, ?_⟩; exact ca_XDTab
  · rintro v9 ho; have ho := ho.symm; subst ho; intro _; replace h := hK2; refine aSq ?_; refine aSR ?_; intro _; refine dr_XDTab ?_; refine aBk ?_; refine awp_loop (α := Nat × Bool × Int) (fun x => mkS 45 [(3, .c (.bool x.2.1)), (26, .sl 4 (a0.Ops.map cGOp)), (27, .c (.int .i64 ((a0.Ops.map cGOp).length : Int))), (28, .c (.int .i64 x.2.2))] []) (fun x => M_r05_outside_L2 a0 x.1 x.2.1 x.2.2 = some r1) (fun x => x.1) ((((a0.Ops.map cGOp).length : Int)).toNat + 1, v9, 0) h ?_ ?_
    · exact ca_XDTab
    · intro x10 h; intro _; obtain ⟨k25, m11, h⟩ := succ_of (f := fun n => M_r05_outside_L2 a0 n x10.2.1 x10.2.2) rfl h; replace h : M_r05_outside_L2 a0 (k25 + 1) x10.2.1 x10.2.2 = some r1 := h; rw [M_r05_outside_L2] at h; refine aSR ?_; intro _; refine dr_XDTab ?_; refine aSq ?_; refine aCd ?_; intro _; refine spl h (fun c12 h => ?_) (fun c12 h => ?_)
      · refine aSk ?_; refine aSq ?_; refine aBk ?_; refine aSR ?_; intro _; obtain ⟨y26, w13, q14, h⟩ := ix_ok h; refine Exists.intro (cGOp y26) (And.intro (map_at' w13) ?_); intro _; refine pr_XDTab ?_; refine dr_XDTab ?_; refine aRg ?_; intro _; refine spf h (fun c15 h => ?_) (fun c15 h => ?_)
        · intro _; refine spf h (fun c16 h => ?_) (fun c16 h => ?_)
          · intro _; refine dr_XDTab ?_; refine aRg ?_; intro _; refine dr_XDTab ?_; refine ⟨(k25, (decide (y26.Cost > 1048576)), (IntKind.i64.wrap (x10.2.2 + 1))), h, ltS m11, ?_⟩; exact ca_XDTab
          · intro _; refine dr_XDTab ?_; refine aRg ?_; intro _; refine dr_XDTab ?_; refine ⟨(k25, true, (IntKind.i64.wrap (x10.2.2 + 1))), h, ltS m11, ?_⟩; exact ca_XDTab
        · intro _; refine dr_XDTab ?_; refine aRg ?_; intro _; refine dr_XDTab ?_; refine ⟨(k25, true, (IntKind.i64.wrap (x10.2.2 + 1))), h, ltS m11, ?_⟩; exact ca_XDTab
      · refine aEx ?_; refine aSR ?_; intro _; refine dr_XDTab ?_; refine aRt ?_; intro _; obtain rfl := inj1 h; exact ca_XDTab
def M_r05_malformed_L1 (a0 : GTask) (y113 : GOp) : Nat → Bool → Int → Option (Bool)
  | 0, _, _ => none
  | k128 + 1, v126, v127 =>
    sel (decide (v127 < ((y113.Effs.map cGEffect).length : Int)))
     (ix y113.Effs v127 (fun y129 =>
       sel v126
        (M_r05_malformed_L1 a0 y113 k128 true (IntKind.i64.wrap (v127 + 1)))
        (ob1 (M_b_Proper a0.Vars y129.When) (fun z130 =>
          sel (!z130)
           (M_r05_malformed_L1 a0 y113 k128 true (IntKind.i64.wrap (v127 + 1)))
           (ob1 (M_b_Proper a0.Vars [(y129.Var, y129.Val)]) (fun z131 =>
             M_r05_malformed_L1 a0 y113 k128 (!z131) (IntKind.i64.wrap (v127 + 1))))))))
     (some v126)
def M_r05_malformed_L2 (a0 : GTask) : Nat → Bool → Int → Option (Bool)
  | 0, _, _ => none
  | k91 + 1, v89, v90 =>
    sel (decide (v90 < ((a0.Ops.map cGOp).length : Int)))
     (ob1 (ix a0.Ops v90 (fun y113 =>
        ob1 (sel v89
          (some true)
          (ob1 (M_b_Proper a0.Vars y113.Pre) (fun z117 =>
            some (!z117))) : Option (Bool))
         (fun v115 => M_r05_malformed_L1 a0 y113 ((((y113.Effs.map cGEffect).length : Int)).toNat + 1) v115 0)) : Option (Bool))
       (fun v111 => M_r05_malformed_L2 a0 k91 v111 (IntKind.i64.wrap (v90 + 1))))
     (some v89)
def M_r05_malformed (a0 : GTask) : Option (Bool) :=
  ob1 (ob1 (M_b_State a0.Vars a0.Init) (fun z5 =>
    sel (!z5)
     (some true)
     (ob1 (M_b_Proper a0.Vars a0.Goal) (fun z6 =>
       some (!z6)))) : Option (Bool))
   (fun v3 => M_r05_malformed_L2 a0 ((((a0.Ops.map cGOp).length : Int)).toNat + 1) v3 0)
theorem A_r05_malformed (a0 : GTask) {r1 : Bool} (h : M_r05_malformed a0 = some r1) : ACall cx 64 [.agg [.sl 1 (a0.Vars.map cI), .sl 1 (a0.Init.map cI), .sl 2 (a0.Goal.map cF), .sl 4 (a0.Ops.map cGOp)]] (.c (.bool r1)) := by
  refine aOf Tryz.func64 rfl (by decide) rfl (Nat.le_of_ble_eq_true rfl) ?_; intro _; unfold M_r05_malformed at h; refine aSR ?_; intro _; refine dr_XDTab ?_; obtain ⟨o1, h, hK2⟩ := ob1_ok h; refine awp_cut (α := Bool) (fun v3 => mkS 69 [(1, .ptr 1 0 0 0), (3, .c (.bool v3))] [(1, ⟨26, 4, true, [[.sl 1 (a0.Vars.map cI), .sl 1 (a0.Init.map cI), .sl 2 (a0.Goal.map cF), .sl 4 (a0.Ops.map cGOp)]]⟩)]) (fun v => o1 = v) ?_ ?_
  · refine aRg ?_; intro _; obtain ⟨z5, u3, h⟩ := ob1_ok h; refine cl_XDTab rfl (A_b_State a0.Vars a0.Init u3) ?_; intro _; refine spf h (fun c4 h => ?_) (fun c4 h => ?_)
    · intro _; obtain ⟨z6, u5, h⟩ := ob1_ok h; refine cl_XDTab rfl (A_b_Proper a0.Vars a0.Goal u5) ?_; intro _; refine dr_XDTab ?_; refine ⟨(!z6), (Option.some.inj h).symm, ?_⟩; exact ca_XDTab
    · intro _; refine dr_XDTab ?_; refine ⟨true, (Option.some.inj h).symm, ?_⟩; exact ca_XDTab
  · rintro v3 ho; have ho := ho.symm; subst ho; intro _; replace h := hK2; refine aSq ?_; refine aSR ?_; intro _; refine dr_XDTab ?_; refine aBk ?_; refine awp_loop (α := Nat × Bool × Int) (fun x => mkS 69 [(1, .ptr 1 0 0 0), (3, .c (.bool x.2.1)), (23, .sl 4 (a0.Ops.map cGOp)), (24, .c (.int .i64 ((a0.Ops.map cGOp).length : Int))), (25, .c (.int .i64 x.2.2))] [(1, ⟨26, 4, true, [[.sl 1 (a0.Vars.map cI), .sl 1 (a0.Init.map cI), .sl 2 (a0.Goal.map cF), .sl 4 (a0.Ops.map cGOp)]]⟩)]) (fun x => M_r05_malformed_L2 a0 x.1 x.2.1 x.2.2 = some r1) (fun x => x.1) ((((a0.Ops.map cGOp).length : Int)).toNat + 1, v3, 0) h ?_ ?_
    · exact ca_XDTab
    · intro x6 h; intro _; obtain ⟨k91, m7, h⟩ := succ_of (f := fun n => M_r05_malformed_L2 a0 n x6.2.1 x6.2.2) rfl h; replace h : M_r05_malformed_L2 a0 (k91 + 1) x6.2.1 x6.2.2 = some r1 := h; rw [M_r05_malformed_L2] at h; refine aSR ?_; intro _; refine dr_XDTab ?_; refine aSq ?_; refine aCd ?_; intro _; refine spl h (fun c8 h => ?_) (fun c8 h => ?_)
      · refine aSk ?_; obtain ⟨o9, h, hK10⟩ := ob1_ok h; refine awp_cut (α := Bool) (fun v111 => mkS 69 [(1, .ptr 1 0 0 0), (3, .c (.bool v111)), (23, .sl 4 (a0.Ops.map cGOp)), (24, .c (.int .i64 ((a0.Ops.map cGOp).length : Int))), (25, .c (.int .i64 x6.2.2))] [(1, ⟨26, 4, true, [[.sl 1 (a0.Vars.map cI), .sl 1 (a0.Init.map cI), .sl 2 (a0.Goal.map cF), .sl 4 (a0.Ops.map cGOp)]]⟩)]) (fun v => o9 = v) ?_ ?_
        · refine aBk ?_; refine aSR ?_; intro _; obtain ⟨y113, w11, q12, h⟩ := ix_ok h; refine Exists.intro (cGOp y113) (And.intro (map_at' w11) ?_); intro _; refine pr_XDTab ?_; refine dr_XDTab ?_; obtain ⟨o13, h, hK14⟩ := ob1_ok h; refine awp_cut (α := Bool) (fun v115 => mkS 69 [(1, .ptr 1 0 0 0), (3, .c (.bool v115)), (5, .ptr 5 0 0 0), (23, .sl 4 (a0.Ops.map cGOp)), (24, .c (.int .i64 ((a0.Ops.map cGOp).length : Int))), (25, .c (.int .i64 x6.2.2))] [(1, ⟨26, 4, true, [[.sl 1 (a0.Vars.map cI), .sl 1 (a0.Init.map cI), .sl 2 (a0.Goal.map cF), .sl 4 (a0.Ops.map cGOp)]]⟩), (5, ⟨73, 4, true, [[.c (.string y113.Name), .c (.int .i64 y113.Cost), .sl 2 (y113.Pre.map cF), .sl 3 (y113.Effs.map cGEffect)]]⟩)]) (fun v => o13 = v) ?_ ?_
          · refine aRg ?_; intro _; refine spf h (fun c15 h => ?_) (fun c15 h => ?_)
            · intro _; obtain ⟨z117, u16, h⟩ := ob1_ok h; refine cl_XDTab rfl (A_b_Proper a0.Vars y113.Pre u16) ?_; intro _; refine dr_XDTab ?_; refine ⟨(!z117), (Option.some.inj h).symm, ?_⟩; exact ca_XDTab
            · intro _; refine dr_XDTab ?_; refine ⟨true, (Option.some.inj h).symm, ?_⟩; exact ca_XDTab
          · rintro v115 ho; have ho := ho.symm; subst ho; intro _; replace h := hK14; refine aSR ?_; intro _; refine dr_XDTab ?_; refine aBk ?_; refine awp_loop (α := Nat × Bool × Int) (fun x => mkS 69 [(1, .ptr 1 0 0 0), (3, .c (.bool x.2.1)), (23, .sl 4 (a0.Ops.map cGOp)), (24, .c (.int .i64 ((a0.Ops.map cGOp).length : Int))), (25, .c (.int .i64 x6.2.2)), (39, .sl 3 (y113.Effs.map cGEffect)), (40, .c (.int .i64 ((y113.Effs.map cGEffect).length : Int))), (41, .c (.int .i64 x.2.2))] [(1, ⟨26, 4, true, [[.sl 1 (a0.Vars.map cI), .sl 1 (a0.Init.map cI), .sl 2 (a0.Goal.map cF), .sl 4 (a0.Ops.map cGOp)]]⟩)]) (fun x => M_r05_malformed_L1 a0 y113 x.1 x.2.1 x.2.2 = some o9) (fun x => x.1) ((((y113.Effs.map cGEffect).length : Int)).toNat + 1, v115, 0) h ?_ ?_
            · exact ca_XDTab
            · intro x17 h; intro _; obtain ⟨k128, m18, h⟩ := succ_of (f := fun n => M_r05_malformed_L1 a0 y113 n x17.2.1 x17.2.2) rfl h; replace h : M_r05_malformed_L1 a0 y113 (k128 + 1) x17.2.1 x17.2.2 = some o9 := h; rw [M_r05_malformed_L1] at h; refine aSR ?_; intro _; refine dr_XDTab ?_; refine aSq ?_; refine aCd ?_; intro _; refine spl h (fun c19 h => ?_) (fun c19 h => ?_)
              · refine aSk ?_; refine aSq ?_; refine aBk ?_; refine aSR ?_; intro _; obtain ⟨y129, w20, q21, h⟩ := ix_ok h; refine Exists.intro (cGEffect y129) (And.intro (map_at' w20) ?_); intro _; refine pr_XDTab ?_; refine dr_XDTab ?_; refine aRg ?_; intro _; refine spf h (fun c22 h => ?_) (fun c22 h => ?_)
                · intro _; obtain ⟨z130, u23, h⟩ := ob1_ok h; refine cl_XDTab rfl (A_b_Proper a0.Vars y129.When u23) ?_; intro _; refine spf h (fun c24 h => ?_) (fun c24 h => ?_)
                  · intro _; obtain ⟨z131, u25, h⟩ := ob1_ok h; refine clb_XDTab [62] rfl rfl (A_b_Proper a0.Vars [(y129.Var, y129.Val)] u25) ?_; intro _; refine dr_XDTab ?_; refine aRg ?_; intro _; refine dr_XDTab ?_; refine ⟨(k128, (!z131), (IntKind.i64.wrap (x17.2.2 + 1))), h, ltS m18, ?_⟩; exact ca_XDTab
                  · intro _; refine dr_XDTab ?_; refine aRg ?_; intro _; refine dr_XDTab ?_; refine ⟨(k128, true, (IntKind.i64.wrap (x17.2.2 + 1))), h, ltS m18, ?_⟩; exact ca_XDTab
                · intro _; refine dr_XDTab ?_; refine aRg ?_; intro _; refine dr_XDTab ?_; refine ⟨(k128, true, (IntKind.i64.wrap (x17.2.2 + 1))), h, ltS m18, ?_⟩; exact ca_XDTab
              · refine aEx ?_; refine ⟨x17.2.1, (Option.some.inj h).symm, ?_⟩; exact ca_XDTab
        · rintro v111 ho; have ho := ho.symm; subst ho; intro _; replace h := hK10; refine aRg ?_; intro _; refine dr_XDTab ?_; refine ⟨(k91, v111, (IntKind.i64.wrap (x6.2.2 + 1))), h, ltS m7, ?_⟩; exact ca_XDTab
      · refine aEx ?_; refine aSR ?_; intro _; refine dr_XDTab ?_; refine aRt ?_; intro _; obtain rfl := inj1 h; exact ca_XDTab
def M_r05_misnamed_L1 (y57 : GOp) : Nat → Bool → Int → Option (Bool)
  | 0, _, _ => none
  | k64 + 1, v62, v63 =>
    sel (decide (v63 < (y57.Name.size : Int)))
     (sel v62
       (M_r05_misnamed_L1 y57 k64 true (IntKind.i64.wrap (v63 + 1)))
       (sel (decide ((byt y57.Name v63) < 32))
         (grd (0 ≤ v63) (grd (v63 < (y57.Name.size : Int)) (M_r05_misnamed_L1 y57 k64 true (IntKind.i64.wrap (v63 + 1)))))
         (grd (0 ≤ v63) (grd (v63 < (y57.Name.size : Int)) (M_r05_misnamed_L1 y57 k64 (decide ((byt y57.Name v63) > 126)) (IntKind.i64.wrap (v63 + 1)))))))
     (some v62)
def M_r05_misnamed_L2 (a0 : GTask) : Nat → Bool → Int → Option (Bool)
  | 0, _, _ => none
  | k46 + 1, v44, v45 =>
    sel (decide (v45 < ((a0.Ops.map cGOp).length : Int)))
     (ob1 (ix a0.Ops v45 (fun y57 =>
        ob1 (sel v44
          (some true)
          (some (decide ((y57.Name.size : Int) > 256))) : Option (Bool))
         (fun v58 => M_r05_misnamed_L1 y57 (((y57.Name.size : Int)).toNat + 1) v58 0)) : Option (Bool))
       (fun v55 => M_r05_misnamed_L2 a0 k46 v55 (IntKind.i64.wrap (v45 + 1))))
     (some v44)
def M_r05_misnamed (a0 : GTask) : Option (Bool) :=
  M_r05_misnamed_L2 a0 ((((a0.Ops.map cGOp).length : Int)).toNat + 1) false 0
theorem A_r05_misnamed (a0 : GTask) {r1 : Bool} (h : M_r05_misnamed a0 = some r1) : ACall cx 65 [.agg [.sl 1 (a0.Vars.map cI), .sl 1 (a0.Init.map cI), .sl 2 (a0.Goal.map cF), .sl 4 (a0.Ops.map cGOp)]] (.c (.bool r1)) := by
  refine aOf Tryz.func65 rfl (by decide) rfl (Nat.le_of_ble_eq_true rfl) ?_; intro _; unfold M_r05_misnamed at h; refine aSR ?_; intro _; refine dr_XDTab ?_; refine aSR ?_; intro _; refine dr_XDTab ?_; refine aSq ?_; refine aSR ?_; intro _; refine dr_XDTab ?_; refine aBk ?_; refine awp_loop (α := Nat × Bool × Int) (fun x => mkS 45 [(3, .c (.bool x.2.1)), (8, .sl 4 (a0.Ops.map cGOp)), (9, .c (.int .i64 ((a0.Ops.map cGOp).length : Int))), (10, .c (.int .i64 x.2.2))] []) (fun x => M_r05_misnamed_L2 a0 x.1 x.2.1 x.2.2 = some r1) (fun x => x.1) ((((a0.Ops.map cGOp).length : Int)).toNat + 1, false, 0) h ?_ ?_
  · exact ca_XDTab
  · intro x1 h; intro _; obtain ⟨k46, m2, h⟩ := succ_of (f := fun n => M_r05_misnamed_L2 a0 n x1.2.1 x1.2.2) rfl h; replace h : M_r05_misnamed_L2 a0 (k46 + 1) x1.2.1 x1.2.2 = some r1 := h; rw [M_r05_misnamed_L2] at h; refine aSR ?_; intro _; refine dr_XDTab ?_; refine aSq ?_; refine aCd ?_; intro _; refine spl h (fun c3 h => ?_) (fun c3 h => ?_)
    · refine aSk ?_; obtain ⟨o4, h, hK5⟩ := ob1_ok h; refine awp_cut (α := Bool) (fun v55 => mkS 45 [(3, .c (.bool v55)), (8, .sl 4 (a0.Ops.map cGOp)), (9, .c (.int .i64 ((a0.Ops.map cGOp).length : Int))), (10, .c (.int .i64 x1.2.2))] []) (fun v => o4 = v) ?_ ?_
      · refine aBk ?_; refine aSR ?_; intro _; obtain ⟨y57, w6, q7, h⟩ := ix_ok h; refine Exists.intro (cGOp y57) (And.intro (map_at' w6) ?_); intro _; refine pr_XDTab ?_; refine dr_XDTab ?_; obtain ⟨o8, h, hK9⟩ := ob1_ok h; refine awp_cut (α := Bool) (fun v58 => mkS 45 [(3, .c (.bool v58)), (5, .ptr 5 0 0 0), (8, .sl 4 (a0.Ops.map cGOp)), (9, .c (.int .i64 ((a0.Ops.map cGOp).length : Int))), (10, .c (.int .i64 x1.2.2))] [(5, ⟨73, 4, true, [[.c (.string y57.Name), .c (.int .i64 y57.Cost), .sl 2 (y57.Pre.map cF), .sl 3 (y57.Effs.map cGEffect)]]⟩)]) (fun v => o8 = v) ?_ ?_
        · refine aRg ?_; intro _; refine spf h (fun c10 h => ?_) (fun c10 h => ?_)
          · intro _; refine dr_XDTab ?_; refine ⟨(decide ((y57.Name.size : Int) > 256)), (Option.some.inj h).symm, ?_⟩; exact ca_XDTab
          · intro _; refine dr_XDTab ?_; refine ⟨true, (Option.some.inj h).symm, ?_⟩; exact ca_XDTab
        · rintro v58 ho; have ho := ho.symm; subst ho; intro _; replace h := hK9; refine aSR ?_; intro _; refine dr_XDTab ?_; refine aBk ?_; refine awp_loop (α := Nat × Bool × Int) (fun x => mkS 45 [(3, .c (.bool x.2.1)), (5, .ptr 5 0 0 0), (8, .sl 4 (a0.Ops.map cGOp)), (9, .c (.int .i64 ((a0.Ops.map cGOp).length : Int))), (10, .c (.int .i64 x1.2.2)), (23, .c (.int .i64 (y57.Name.size : Int))), (24, .c (.int .i64 x.2.2))] [(5, ⟨73, 4, true, [[.c (.string y57.Name), .c (.int .i64 y57.Cost), .sl 2 (y57.Pre.map cF), .sl 3 (y57.Effs.map cGEffect)]]⟩)]) (fun x => M_r05_misnamed_L1 y57 x.1 x.2.1 x.2.2 = some o4) (fun x => x.1) (((y57.Name.size : Int)).toNat + 1, v58, 0) h ?_ ?_
          · exact ca_XDTab
          · intro x11 h; intro _; obtain ⟨k64, m12, h⟩ := succ_of (f := fun n => M_r05_misnamed_L1 y57 n x11.2.1 x11.2.2) rfl h; replace h : M_r05_misnamed_L1 y57 (k64 + 1) x11.2.1 x11.2.2 = some o4 := h; rw [M_r05_misnamed_L1] at h; refine aSR ?_; intro _; refine dr_XDTab ?_; refine aSq ?_; refine aCd ?_; intro _; refine spl h (fun c13 h => ?_) (fun c13 h => ?_)
            · refine aSk ?_; refine aSq ?_; refine aBk ?_; refine aSR ?_; intro _; refine dr_XDTab ?_; refine aRg ?_; intro _; refine spf h (fun c14 h => ?_) (fun c14 h => ?_)
              · intro _; refine spf h (fun c15 h => ?_) (fun c15 h => ?_)
                · intro _; obtain ⟨q16, h⟩ := grd_ok h; obtain ⟨q17, h⟩ := grd_ok h; refine pr_XDTab ?_; refine pr_XDTab ?_; refine pr_XDTab ?_; refine pr_XDTab ?_; refine dr_XDTab ?_; refine aRg ?_; intro _; refine dr_XDTab ?_; refine ⟨(k64, (decide ((byt y57.Name x11.2.2) > 126)), (IntKind.i64.wrap (x11.2.2 + 1))), h, ltS m12, ?_⟩; exact ca_XDTab
                · intro _; obtain ⟨q18, h⟩ := grd_ok h; obtain ⟨q19, h⟩ := grd_ok h; refine pr_XDTab ?_; refine pr_XDTab ?_; refine dr_XDTab ?_; refine aRg ?_; intro _; refine dr_XDTab ?_; refine ⟨(k64, true, (IntKind.i64.wrap (x11.2.2 + 1))), h, ltS m12, ?_⟩; exact ca_XDTab
              · intro _; refine dr_XDTab ?_; refine aRg ?_; intro _; refine dr_XDTab ?_; refine ⟨(k64, true, (IntKind.i64.wrap (x11.2.2 + 1))), h, ltS m12, ?_⟩; exact ca_XDTab
            · refine aEx ?_; refine ⟨x11.2.1, (Option.some.inj h).symm, ?_⟩; exact ca_XDTab
      · rintro v55 ho; have ho := ho.symm; subst ho; intro _; replace h := hK5; refine aRg ?_; intro _; refine dr_XDTab ?_; refine ⟨(k46, v55, (IntKind.i64.wrap (x1.2.2 + 1))), h, ltS m2, ?_⟩; exact ca_XDTab
    · refine aEx ?_; refine aSR ?_; intro _; refine dr_XDTab ?_; refine aRt ?_; intro _; obtain rfl := inj1 h; exact ca_XDTab
def M_r05_Check (a0 : GTask) : Option (Int) :=
  ob1 (M_r05_large a0) (fun z1 =>
   sel z1
    (some 5)
    (ob1 (M_r05_outside a0) (fun z2 =>
      sel z2
       (some 1)
       (ob1 (M_r05_malformed a0) (fun z3 =>
         sel z3
          (some 2)
          (ob1 (M_r05_misnamed a0) (fun z4 =>
            sel z4
             (some 8)
             (some 0))))))))
theorem A_r05_Check (a0 : GTask) {r1 : Int} (h : M_r05_Check a0 = some r1) : ACall cx 33 [.agg [.sl 1 (a0.Vars.map cI), .sl 1 (a0.Init.map cI), .sl 2 (a0.Goal.map cF), .sl 4 (a0.Ops.map cGOp)]] (.c (.int .i64 r1)) := by
  refine aOf Tryz.func33 rfl (by decide) rfl (Nat.le_of_ble_eq_true rfl) ?_; intro _; unfold M_r05_Check at h; refine aSR ?_; intro _; refine dr_XDTab ?_; refine aSq ?_; refine aBk ?_; refine aSR ?_; intro _; obtain ⟨z1, u1, h⟩ := ob1_ok h; refine cl_XDTab rfl (A_r05_large a0 u1) ?_; intro _; refine dr_XDTab ?_; refine aCd ?_; intro _; refine spl h (fun c2 h => ?_) (fun c2 h => ?_)
  · refine aSR ?_; intro _; refine dr_XDTab ?_; refine aRt ?_; intro _; obtain rfl := inj1 h; exact ca_XDTab
  · refine aSR ?_; intro _; obtain ⟨z2, u3, h⟩ := ob1_ok h; refine cl_XDTab rfl (A_r05_outside a0 u3) ?_; intro _; refine dr_XDTab ?_; refine aCd ?_; intro _; refine spl h (fun c4 h => ?_) (fun c4 h => ?_)
    · refine aSR ?_; intro _; refine dr_XDTab ?_; refine aRt ?_; intro _; obtain rfl := inj1 h; exact ca_XDTab
    · refine aSR ?_; intro _; obtain ⟨z3, u5, h⟩ := ob1_ok h; refine cl_XDTab rfl (A_r05_malformed a0 u5) ?_; intro _; refine dr_XDTab ?_; refine aCd ?_; intro _; refine spl h (fun c6 h => ?_) (fun c6 h => ?_)
      · refine aSR ?_; intro _; refine dr_XDTab ?_; refine aRt ?_; intro _; obtain rfl := inj1 h; exact ca_XDTab
      · refine aSR ?_; intro _; obtain ⟨z4, u7, h⟩ := ob1_ok h; refine cl_XDTab rfl (A_r05_misnamed a0 u7) ?_; intro _; refine dr_XDTab ?_; refine aCd ?_; intro _; refine spl h (fun c8 h => ?_) (fun c8 h => ?_)
        · refine aSR ?_; intro _; refine dr_XDTab ?_; refine aRt ?_; intro _; obtain rfl := inj1 h; exact ca_XDTab
        · refine aSk ?_; refine aSR ?_; intro _; refine dr_XDTab ?_; refine aRt ?_; intro _; obtain rfl := inj1 h; exact ca_XDTab
end Go.Proofs.YtohjegemooakpaaGreat.Am
/- Range loops of the models as recursions. -/
namespace Go.Proofs.YtohjegemooakpaaGreat.Am
end Go.Proofs.YtohjegemooakpaaGreat.Am
/- Range loops of the models as recursions. -/
namespace Go.Proofs.YtohjegemooakpaaGreat.Am
def M_r05_large_L1_B (_ : GOp) (_y79 : GEffect) (_ : Int) : ((Bool)) → (((Bool)) → Option (Bool)) → Option (Bool) := fun v76 rc => ixv _y79 (fun y79 =>
       sel v76
        (rc (true))
        (rc ((decide (((y79.When.map cF).length : Int) > 64)))))
def M_r05_large_L1_E (_ : GOp) : ((Bool)) → Option (Bool) := fun v76 => some v76
theorem M_r05_large_L1_eq (y69 : GOp) (v76 : Bool) (hl : y69.Effs.length < 9223372036854775807) : M_r05_large_L1 y69 (((y69.Effs.map cGEffect).length : Int).toNat + 1) v76 0 = Rg (M_r05_large_L1_B y69) (M_r05_large_L1_E y69) y69.Effs 0 v76 := rg_e1 (L := fun k i v76 => M_r05_large_L1 y69 k v76 i) hl (fun _ _ _ => rfl) v76
def M_r05_large_L2_B (_ : GTask) (_y69 : GOp) (_ : Int) : ((Bool)) → (((Bool)) → Option (Bool)) → Option (Bool) := fun v53 rc => ob1 (ixv _y69 (fun y69 =>
        ob1 (sel v53
          (some true)
          (sel (decide (((y69.Pre.map cF).length : Int) > 64))
            (some true)
            (some (decide (((y69.Effs.map cGEffect).length : Int) > 64)))) : Option (Bool))
         (fun v70 => M_r05_large_L1 y69 ((((y69.Effs.map cGEffect).length : Int)).toNat + 1) v70 0)) : Option (Bool))
       (fun v67 => rc (v67))
def M_r05_large_L2_E (_ : GTask) : ((Bool)) → Option (Bool) := fun v53 => some v53
theorem M_r05_large_L2_eq (a0 : GTask) (v53 : Bool) (hl : a0.Ops.length < 9223372036854775807) : M_r05_large_L2 a0 (((a0.Ops.map cGOp).length : Int).toNat + 1) v53 0 = Rg (M_r05_large_L2_B a0) (M_r05_large_L2_E a0) a0.Ops 0 v53 := rg_e2 (L := fun k i v53 => M_r05_large_L2 a0 k v53 i) hl (fun k n p y hy h1 h2 => by first | (simp only [M_r05_large_L2, M_r05_large_L2_B, List.length_map, decide_lt h1, sel, ix_at hy, ixv, h2]; done) | (simp only [List.length_map] at h1 hy; (simp only [M_r05_large_L2, M_r05_large_L2_B, List.length_map, decide_lt h1, sel, ix_at hy, ixv, h2]; done))) (fun k p => by simp only [M_r05_large_L2, M_r05_large_L2_E, List.length_map, decide_ge, sel]) v53
def M_r05_outside_L1_B (_ : GTask) (_y18 : Int) (_ : Int) : ((Bool)) → (((Bool)) → Option (Bool)) → Option (Bool) := fun v15 rc => ixv _y18 (fun y18 =>
       sel v15
        (rc (true))
        (sel (decide (y18 < 1))
          (rc (true))
          (rc ((decide (y18 > 64))))))
def M_r05_outside_L1_E (_ : GTask) : ((Bool)) → Option (Bool) := fun v15 => some v15
theorem M_r05_outside_L1_eq (a0 : GTask) (v15 : Bool) (hl : a0.Vars.length < 9223372036854775807) : M_r05_outside_L1 a0 (((a0.Vars.map cI).length : Int).toNat + 1) v15 0 = Rg (M_r05_outside_L1_B a0) (M_r05_outside_L1_E a0) a0.Vars 0 v15 := rg_e1 (L := fun k i v15 => M_r05_outside_L1 a0 k v15 i) hl (fun _ _ _ => rfl) v15
def M_r05_outside_L2_B (_ : GTask) (_y26 : GOp) (_ : Int) : ((Bool)) → (((Bool)) → Option (Bool)) → Option (Bool) := fun v23 rc => ixv _y26 (fun y26 =>
       sel v23
        (rc (true))
        (sel (decide (y26.Cost < 0))
          (rc (true))
          (rc ((decide (y26.Cost > 1048576))))))
def M_r05_outside_L2_E (_ : GTask) : ((Bool)) → Option (Bool) := fun v23 => some v23
theorem M_r05_outside_L2_eq (a0 : GTask) (v23 : Bool) (hl : a0.Ops.length < 9223372036854775807) : M_r05_outside_L2 a0 (((a0.Ops.map cGOp).length : Int).toNat + 1) v23 0 = Rg (M_r05_outside_L2_B a0) (M_r05_outside_L2_E a0) a0.Ops 0 v23 := rg_e1 (L := fun k i v23 => M_r05_outside_L2 a0 k v23 i) hl (fun _ _ _ => rfl) v23
def M_r05_malformed_L1_B (a0 : GTask) (_ : GOp) (_y129 : GEffect) (_ : Int) : ((Bool)) → (((Bool)) → Option (Bool)) → Option (Bool) := fun v126 rc => ixv _y129 (fun y129 =>
       sel v126
        (rc (true))
        (ob1 (M_b_Proper a0.Vars y129.When) (fun z130 =>
          sel (!z130)
           (rc (true))
           (ob1 (M_b_Proper a0.Vars [(y129.Var, y129.Val)]) (fun z131 =>
             rc ((!z131)))))))
def M_r05_malformed_L1_E (_ : GTask) (_ : GOp) : ((Bool)) → Option (Bool) := fun v126 => some v126
theorem M_r05_malformed_L1_eq (a0 : GTask) (y113 : GOp) (v126 : Bool) (hl : y113.Effs.length < 9223372036854775807) : M_r05_malformed_L1 a0 y113 (((y113.Effs.map cGEffect).length : Int).toNat + 1) v126 0 = Rg (M_r05_malformed_L1_B a0 y113) (M_r05_malformed_L1_E a0 y113) y113.Effs 0 v126 := rg_e1 (L := fun k i v126 => M_r05_malformed_L1 a0 y113 k v126 i) hl (fun _ _ _ => rfl) v126
def M_r05_malformed_L2_B (a0 : GTask) (_y113 : GOp) (_ : Int) : ((Bool)) → (((Bool)) → Option (Bool)) → Option (Bool) := fun v89 rc => ob1 (ixv _y113 (fun y113 =>
        ob1 (sel v89
          (some true)
          (ob1 (M_b_Proper a0.Vars y113.Pre) (fun z117 =>
            some (!z117))) : Option (Bool))
         (fun v115 => M_r05_malformed_L1 a0 y113 ((((y113.Effs.map cGEffect).length : Int)).toNat + 1) v115 0)) : Option (Bool))
       (fun v111 => rc (v111))
def M_r05_malformed_L2_E (_ : GTask) : ((Bool)) → Option (Bool) := fun v89 => some v89
theorem M_r05_malformed_L2_eq (a0 : GTask) (v89 : Bool) (hl : a0.Ops.length < 9223372036854775807) : M_r05_malformed_L2 a0 (((a0.Ops.map cGOp).length : Int).toNat + 1) v89 0 = Rg (M_r05_malformed_L2_B a0) (M_r05_malformed_L2_E a0) a0.Ops 0 v89 := rg_e2 (L := fun k i v89 => M_r05_malformed_L2 a0 k v89 i) hl (fun k n p y hy h1 h2 => by first | (simp only [M_r05_malformed_L2, M_r05_malformed_L2_B, List.length_map, decide_lt h1, sel, ix_at hy, ixv, h2]; done) | (simp only [List.length_map] at h1 hy; (simp only [M_r05_malformed_L2, M_r05_malformed_L2_B, List.length_map, decide_lt h1, sel, ix_at hy, ixv, h2]; done))) (fun k p => by simp only [M_r05_malformed_L2, M_r05_malformed_L2_E, List.length_map, decide_ge, sel]) v89
def M_r05_misnamed_L1_B (y57 : GOp) (v63 : Int) : ((Bool)) → (((Bool)) → Option (Bool)) → Option (Bool) := fun v62 rc => sel v62
       (rc (true))
       (sel (decide ((byt y57.Name v63) < 32))
         (grd (0 ≤ v63) (grd (v63 < (y57.Name.size : Int)) (rc (true))))
         (grd (0 ≤ v63) (grd (v63 < (y57.Name.size : Int)) (rc ((decide ((byt y57.Name v63) > 126)))))))
def M_r05_misnamed_L1_E (_ : GOp) : ((Bool)) → Option (Bool) := fun v62 => some v62
theorem M_r05_misnamed_L1_eq (y57 : GOp) (v62 : Bool) {m : Nat} (hm : (y57.Name.size : Int) = (m : Int)) (hl : m < 9223372036854775807) : M_r05_misnamed_L1 y57 (((y57.Name.size : Int)).toNat + 1) v62 0 = Rn (M_r05_misnamed_L1_B y57) (M_r05_misnamed_L1_E y57) m 0 v62 := rn_e (L := fun k i v62 => M_r05_misnamed_L1 y57 k v62 i) hm hl (fun _ _ _ => rfl) v62
def M_r05_misnamed_L2_B (_ : GTask) (_y57 : GOp) (_ : Int) : ((Bool)) → (((Bool)) → Option (Bool)) → Option (Bool) := fun v44 rc => ob1 (ixv _y57 (fun y57 =>
        ob1 (sel v44
          (some true)
          (some (decide ((y57.Name.size : Int) > 256))) : Option (Bool))
         (fun v58 => M_r05_misnamed_L1 y57 (((y57.Name.size : Int)).toNat + 1) v58 0)) : Option (Bool))
       (fun v55 => rc (v55))
def M_r05_misnamed_L2_E (_ : GTask) : ((Bool)) → Option (Bool) := fun v44 => some v44
theorem M_r05_misnamed_L2_eq (a0 : GTask) (v44 : Bool) (hl : a0.Ops.length < 9223372036854775807) : M_r05_misnamed_L2 a0 (((a0.Ops.map cGOp).length : Int).toNat + 1) v44 0 = Rg (M_r05_misnamed_L2_B a0) (M_r05_misnamed_L2_E a0) a0.Ops 0 v44 := rg_e2 (L := fun k i v44 => M_r05_misnamed_L2 a0 k v44 i) hl (fun k n p y hy h1 h2 => by first | (simp only [M_r05_misnamed_L2, M_r05_misnamed_L2_B, List.length_map, decide_lt h1, sel, ix_at hy, ixv, h2]; done) | (simp only [List.length_map] at h1 hy; (simp only [M_r05_misnamed_L2, M_r05_misnamed_L2_B, List.length_map, decide_lt h1, sel, ix_at hy, ixv, h2]; done))) (fun k p => by simp only [M_r05_misnamed_L2, M_r05_misnamed_L2_E, List.length_map, decide_ge, sel]) v44
end Go.Proofs.YtohjegemooakpaaGreat.Am
/- Plain laws: the reference of Check. -/
namespace Go.Proofs.YtohjegemooakpaaGreat.Am
open Go.RowKit
def erN : Er → Int
  | .nil => 0
  | .no e => e
theorem rg_any {α γ : Type} {B : α → Int → Bool → (Bool → Option γ) → Option γ} {E : Bool → Option γ} {q : α → Bool} : ∀ {l : List α} {i : Int} {v : Bool}, (∀ y ∈ l, ∀ i v rc, B y i v rc = rc (v || q y)) → Rg B E l i v = E (v || l.any q)
  | [], i, v, _ => by rw [Rg, List.any_nil, Bool.or_false]
  | y :: r, i, v, h => by
    rw [Rg, h y (List.mem_cons_self ..), rg_any (fun z hz => h z (List.mem_cons_of_mem _ hz)), List.any_cons, Bool.or_assoc]
theorem rn_any {γ : Type} {B : Int → Bool → (Bool → Option γ) → Option γ} {E : Bool → Option γ} {q : Nat → Bool} : ∀ {m n : Nat} {v : Bool}, (∀ k, n ≤ k → k < n + m → ∀ v rc, B k v rc = rc (v || q k)) → Rn B E m n v = E (v || (List.range' n m).any q)
  | 0, n, v, _ => by rw [Rn]; simp
  | m + 1, n, v, h => by
    rw [Rn, h n (Nat.le_refl _) (by omega), show ((n : Int) + 1) = ((n + 1 : Nat) : Int) from rfl, rn_any (fun k h1 h2 => h k (by omega) (by omega)), List.range'_succ, List.any_cons, Bool.or_assoc]
theorem sel_or {γ : Type} {b : Bool} {rc : Bool → Option γ} {x : Bool} : sel b (rc true) (rc x) = rc (b || x) := by cases b <;> rfl
theorem ref_large (t : GTask) (ht : ShT t) : M_r05_large t = some (largeF t) := by
  have e2 := M_r05_large_L2_eq t (decide (t.Vars.length > 64) || (decide (t.Ops.length > 4096) || decide (t.Goal.length > 64))) ht.ops.lt
  have hv : ∀ K : Bool → Option Bool, ob1 (sel (decide (((t.Vars.map cI).length : Int) > 64)) (some true) (sel (decide (((t.Ops.map cGOp).length : Int) > 4096)) (some true) (some (decide (((t.Goal.map cF).length : Int) > 64)))) : Option (Bool)) K = K (decide (t.Vars.length > 64) || (decide (t.Ops.length > 4096) || decide (t.Goal.length > 64))) := by
    intro K
    simp only [List.length_map]
    have a1 : decide ((t.Vars.length : Int) > 64) = decide (t.Vars.length > 64) := by congr 1; apply propext; omega
    have a2 : decide ((t.Ops.length : Int) > 4096) = decide (t.Ops.length > 4096) := by congr 1; apply propext; omega
    have a3 : decide ((t.Goal.length : Int) > 64) = decide (t.Goal.length > 64) := by congr 1; apply propext; omega
    rw [a1, a2, a3]
    cases decide (t.Vars.length > 64) <;> cases decide (t.Ops.length > 4096) <;> rfl
  rw [M_r05_large, hv, e2, rg_any (q := fun o : GOp => decide (o.Pre.length > 64) || (decide (o.Effs.length > 64) || o.Effs.any fun e => decide (e.When.length > 64))), M_r05_large_L2_E]
  · congr 1
    rw [Bool.eq_iff_iff, largeF, condsF]
    simp only [Bool.or_eq_true, decide_eq_true_iff, List.any_eq_true, List.mem_cons, List.mem_flatMap, condsO, List.mem_map]
    constructor
    · rintro ((h | h | h) | ⟨o, ho, h | h | ⟨e, he, h⟩⟩)
      · exact .inl h
      · exact .inr (.inl h)
      · exact .inr (.inr (.inr ⟨_, .inl rfl, h⟩))
      · exact .inr (.inr (.inr ⟨_, .inr ⟨o, ho, .inl rfl⟩, h⟩))
      · exact .inr (.inr (.inl ⟨o, ho, h⟩))
      · exact .inr (.inr (.inr ⟨_, .inr ⟨o, ho, .inr ⟨e, he, rfl⟩⟩, h⟩))
    · rintro (h | h | ⟨o, ho, h⟩ | ⟨l, rfl | ⟨o, ho, rfl | ⟨e, he, rfl⟩⟩, h⟩)
      · exact .inl (.inl h)
      · exact .inl (.inr (.inl h))
      · exact .inr ⟨o, ho, .inr (.inl h)⟩
      · exact .inl (.inr (.inr h))
      · exact .inr ⟨o, ho, .inl h⟩
      · exact .inr ⟨o, ho, .inr (.inr ⟨e, he, h⟩)⟩
  · intro o ho i v rc
    have e1 := fun v => M_r05_large_L1_eq o v (ht.op o ho).effs.lt
    have a1 : decide ((o.Pre.length : Int) > 64) = decide (o.Pre.length > 64) := by congr 1; apply propext; omega
    have a2 : decide ((o.Effs.length : Int) > 64) = decide (o.Effs.length > 64) := by congr 1; apply propext; omega
    have e3 : ∀ v, M_r05_large_L1 o ((((o.Effs.map cGEffect).length : Int)).toNat + 1) v 0 = some (v || o.Effs.any fun e => decide (e.When.length > 64)) := fun v => by
      rw [e1, rg_any (q := fun e : GEffect => decide (e.When.length > 64)), M_r05_large_L1_E]
      intro e _ i v rc
      rw [M_r05_large_L1_B, ixv, sel_or, List.length_map]
      congr 2
      congr 1; apply propext; omega
    rw [M_r05_large_L2_B, ixv]
    simp only [e3]
    simp only [List.length_map, a1, a2]
    cases v <;> cases decide (o.Pre.length > 64) <;> cases decide (o.Effs.length > 64) <;> rfl
def outF (t : GTask) : Bool := t.Vars.any (fun n => !decide (1 ≤ n ∧ n ≤ 64)) || t.Ops.any (fun o => !decide (0 ≤ o.Cost ∧ o.Cost ≤ 1048576))
theorem ref_out (t : GTask) (ht : ShT t) : M_r05_outside t = some (outF t) := by
  have e1 := M_r05_outside_L1_eq t false ht.vars.lt
  have e2 := fun v => M_r05_outside_L2_eq t v ht.ops.lt
  rw [M_r05_outside, e1, rg_any (q := fun n : Int => !decide (1 ≤ n ∧ n ≤ 64)), M_r05_outside_L1_E, ob1_some, e2, rg_any (q := fun o : GOp => !decide (0 ≤ o.Cost ∧ o.Cost ≤ 1048576)), M_r05_outside_L2_E, Bool.false_or, outF]
  · intro o _ i v rc
    rw [M_r05_outside_L2_B, ixv, sel_or, sel_or]
    congr 2
    rw [Bool.eq_iff_iff, Bool.or_eq_true, decide_eq_true_iff, decide_eq_true_iff, Bool.not_eq_true', decide_eq_false_iff_not]
    omega
  · intro n _ i v rc
    rw [M_r05_outside_L1_B, ixv, sel_or, sel_or]
    congr 2
    rw [Bool.eq_iff_iff, Bool.or_eq_true, decide_eq_true_iff, decide_eq_true_iff, Bool.not_eq_true', decide_eq_false_iff_not]
    omega
def badF (t : GTask) : Bool := !(stateF t.Vars t.Init && propF t.Vars (-1) t.Goal) || t.Ops.any fun o => !propF t.Vars (-1) o.Pre || o.Effs.any fun e => !effF t.Vars e
theorem ref_bad (t : GTask) (ht : ShT t) : M_r05_malformed t = some (badF t) := by
  have e2 := fun v => M_r05_malformed_L2_eq t v ht.ops.lt
  rw [M_r05_malformed, state_eq t.Vars t.Init ht.init, proper_eq t.Vars t.Goal ht.goal]
  have hv : ∀ K : Bool → Option Bool, ob1 (ob1 (some (stateF t.Vars t.Init)) (fun z5 => sel (!z5) (some true) (ob1 (some (propF t.Vars (-1) t.Goal)) (fun z6 => some (!z6))))) K = K (!(stateF t.Vars t.Init && propF t.Vars (-1) t.Goal)) := fun K => by
    cases stateF t.Vars t.Init <;> cases propF t.Vars (-1) t.Goal <;> rfl
  rw [hv, e2, rg_any (q := fun o : GOp => !propF t.Vars (-1) o.Pre || o.Effs.any fun e => !effF t.Vars e), M_r05_malformed_L2_E, badF]
  intro o ho i v rc
  have hso := ht.op o ho
  have e1 := fun v => M_r05_malformed_L1_eq t o v hso.effs.lt
  have e3 : ∀ v, M_r05_malformed_L1 t o ((((o.Effs.map cGEffect).length : Int)).toNat + 1) v 0 = some (v || o.Effs.any fun e => !effF t.Vars e) := fun v => by
    rw [e1, rg_any (q := fun e : GEffect => !effF t.Vars e), M_r05_malformed_L1_E]
    intro e he i v rc
    rw [M_r05_malformed_L1_B, ixv, proper_eq t.Vars e.When (hso.when e he), proper_eq t.Vars [(e.Var, e.Val)] (by show (1 : Nat) ≤ _; decide), ob1_some, ob1_some, sel_or, sel_or, effF]
    cases propF t.Vars (-1) e.When <;> cases propF t.Vars (-1) [(e.Var, e.Val)] <;> rfl
  rw [M_r05_malformed_L2_B, ixv, proper_eq t.Vars o.Pre hso.pre]
  simp only [e3]
  cases v <;> cases propF t.Vars (-1) o.Pre <;> rfl
def misF (t : GTask) : Bool := t.Ops.any fun o => decide (o.Name.size > 256) || !(bl o.Name).all charF
theorem ref_mis (t : GTask) (ht : ShT t) : M_r05_misnamed t = some (misF t) := by
  have e2 := M_r05_misnamed_L2_eq t false ht.ops.lt
  rw [M_r05_misnamed, e2, rg_any (q := fun o : GOp => decide (o.Name.size > 256) || !(bl o.Name).all charF), M_r05_misnamed_L2_E, Bool.false_or, misF]
  intro o ho i v rc
  have hso := (ht.op o ho).name
  have e3 : ∀ v, M_r05_misnamed_L1 o (((o.Name.size : Int)).toNat + 1) v 0 = some (v || !(bl o.Name).all charF) := fun v => by
    rw [M_r05_misnamed_L1_eq o v (m := o.Name.size) rfl (by omega)]
    have := rn_any (B := M_r05_misnamed_L1_B o) (E := M_r05_misnamed_L1_E o) (q := fun k => !(match (bl o.Name)[k]? with | some c => charF c | none => false)) (m := o.Name.size) (n := 0) (v := v) (fun k _ hk v rc => by
      obtain ⟨c, hc, hb⟩ := byt_at o.Name k (by omega)
      rw [M_r05_misnamed_L1_B, hb, hc, sel_dec, grd_t (by omega), grd_t (by omega), grd_t (by omega), grd_t (by omega)]
      simp only [charF]
      by_cases h1 : ((c.toNat : Int)) < 32
      · rw [if_pos h1, sel_or, decide_eq_false (by omega)]; rfl
      · rw [if_neg h1, sel_or]
        congr 2
        rw [Bool.eq_iff_iff, Bool.not_eq_true', decide_eq_true_iff, decide_eq_false_iff_not]
        omega)
    have e0 : Rn (M_r05_misnamed_L1_B o) (M_r05_misnamed_L1_E o) o.Name.size 0 v = _ := this
    rw [e0, M_r05_misnamed_L1_E, ← range_bytes]
    congr 2
    rw [Bool.eq_iff_iff, Bool.not_eq_true', List.all_eq_false]
    simp only [List.any_eq_true, Bool.not_eq_true', Bool.eq_false_iff, ne_eq]
    first | done | exact Iff.rfl
  rw [M_r05_misnamed_L2_B, ixv]
  simp only [e3]
  have a1 : decide ((o.Name.size : Int) > 256) = decide (o.Name.size > 256) := by congr 1; apply propext; omega
  rw [a1]
  cases v <;> cases decide (o.Name.size > 256) <;> rfl
theorem any_not {α : Type} (l : List α) (p : α → Bool) : (l.any fun x => !p x) = !l.all p := by rw [List.not_all_eq_any_not]
theorem ref_check (t : GTask) (ht : ShT t) : M_r05_Check t = some (erN (checkF t)) := by
  rw [M_r05_Check, ref_large t ht, ref_out t ht, ref_bad t ht, ref_mis t ht, ob1_some, ob1_some, ob1_some, ob1_some, checkF]
  have hb : badF t = !(stateF t.Vars t.Init && ((condsF t).all (propF t.Vars (-1)) && t.Ops.all (fun o => o.Effs.all (fun e => propF t.Vars (-1) [(e.Var, e.Val)])))) := by
    rw [Bool.eq_iff_iff, badF, Bool.not_eq_true', Bool.eq_false_iff, ne_eq, ← Decidable.not_iff_not, Decidable.not_not]
    simp only [Bool.or_eq_true, Bool.not_eq_true', Bool.and_eq_true, List.any_eq_true, List.all_eq_true, condsF, List.mem_cons, List.mem_flatMap, condsO, List.mem_map, effF, Bool.eq_false_iff, ne_eq]
    constructor
    · intro h
      have h1 : stateF t.Vars t.Init = true ∧ propF t.Vars (-1) t.Goal = true := Decidable.byContradiction fun hh => h (.inl hh)
      have h2 : ∀ o ∈ t.Ops, propF t.Vars (-1) o.Pre = true ∧ ∀ e ∈ o.Effs, propF t.Vars (-1) e.When = true ∧ propF t.Vars (-1) [(e.Var, e.Val)] = true := fun o ho =>
        ⟨Decidable.byContradiction fun hh => h (.inr ⟨o, ho, .inl hh⟩), fun e he => Decidable.byContradiction fun hh => h (.inr ⟨o, ho, .inr ⟨e, he, hh⟩⟩)⟩
      refine ⟨h1.1, fun x hx => ?_, fun o ho e he => ((h2 o ho).2 e he).2⟩
      rcases hx with rfl | ⟨o, ho, rfl | ⟨e, he, rfl⟩⟩
      · exact h1.2
      · exact (h2 o ho).1
      · exact ((h2 o ho).2 e he).1
    · rintro ⟨h1, h2, h3⟩ (h | ⟨o, ho, h | ⟨e, he, h⟩⟩)
      · exact h ⟨h1, h2 _ (.inl rfl)⟩
      · exact h (h2 _ (.inr ⟨o, ho, .inl rfl⟩))
      · exact h ⟨h2 _ (.inr ⟨o, ho, .inr ⟨e, he, rfl⟩⟩), h3 o ho e he⟩
  have hm : misF t = !t.Ops.all (fun o => (bl o.Name).all charF && decide (o.Name.size ≤ 256)) := by
    rw [← any_not, misF]
    congr 1
    funext o
    have : decide (o.Name.size > 256) = !decide (o.Name.size ≤ 256) := by rw [Bool.eq_iff_iff, decide_eq_true_iff, Bool.not_eq_true', decide_eq_false_iff_not]; omega
    rw [this]
    cases decide (o.Name.size ≤ 256) <;> cases (bl o.Name).all charF <;> rfl
  rw [hb, hm, outF, any_not, any_not]
  cases largeF t with
  | true => rfl
  | false =>
    rw [sel_ff, if_neg (by decide)]
    cases t.Vars.all (fun n => decide (1 ≤ n ∧ n ≤ 64)) with
    | false => rfl
    | true =>
      cases t.Ops.all (fun o => decide (0 ≤ o.Cost ∧ o.Cost ≤ 1048576)) with
      | false => rfl
      | true =>
        cases (stateF t.Vars t.Init && ((condsF t).all (propF t.Vars (-1)) && t.Ops.all (fun o => o.Effs.all (fun e => propF t.Vars (-1) [(e.Var, e.Val)])))) with
        | false => rfl
        | true =>
          cases t.Ops.all (fun o => (bl o.Name).all charF && decide (o.Name.size ≤ 256)) <;> rfl
end Go.Proofs.YtohjegemooakpaaGreat.Am
/- Plain law: the number of the states as a product. -/
namespace Go.Proofs.YtohjegemooakpaaGreat.Am
open Go.RowKit
end Go.Proofs.YtohjegemooakpaaGreat.Am
/- Plain law: certify.FromTable, its reference, CertifyTables. -/
namespace Go.Proofs.YtohjegemooakpaaGreat.Am
open Go.RowKit
theorem awake100 : M_l32_awake 100 = some true := by kernel_rfl
section
variable {t : GTask} {p : List Int} (hk : ∀ k ∈ t.Vars, 1 ≤ k ∧ k ≤ 64)
include hk in
end
theorem checkF_code {t : GTask} {e : Int} (h : checkF t = .no e) : e ≠ 0 := by
  unfold checkF at h
  repeat' (split at h)
  all_goals first | (cases h; decide) | cases h
end Go.Proofs.YtohjegemooakpaaGreat.Am
/- Plain law: CertifyTables. -/
namespace Go.Proofs.YtohjegemooakpaaGreat.Am
open Go.RowKit
end Go.Proofs.YtohjegemooakpaaGreat.Am
/- Models printed by my decompiler, and the proofs that the code computes them. -/
namespace Go.Proofs.YtohjegemooakpaaGreat.Am
set_option maxHeartbeats 16000000
set_option maxRecDepth 100000
open Go.RowKit
theorem zb_XDErr {P : Prop} (h : P := by repeat (first | exact BWL.nil | exact bwll_nil | exact bw_c | exact BW.sl | exact BW.nil | exact bwll_same rfl FrI.h | refine BWL.cons ?_ ?_ | refine bwll_cons ?_ ?_ | (refine bw_own3 rfl rfl rfl FrI.h ?_ ?_ ?_) | exact BW.fr FrV.h | exact BW.fr (by assumption) | refine bw_agg ?_ | refine bw_clo ?_ | refine bw_ptr rfl rfl rfl ?_ | (refine bw_own rfl rfl rfl ?_ FrI.h ?_ ?_) | assumption | omega | rfl | (rw [List.length_map, ← List.length_append]; assumption) | (refine bwll_same ?_ FrI.h; (simp [cGTask, cI, cF, cGOp, cGEffect, cGCertificate, cN] <;> fail)) | (rw [List.map_set]; refine bwll_set (by first | rfl | omega | simp) ?_ ?_) | refine bwll_set (by first | rfl | omega | simp) ?_ ?_ | (rw [List.map_replicate]; refine bwll_rep ?_) | refine bwll_rep ?_ | (rw [List.map_append]; refine bwll_append ?_ ?_) | refine bwll_append ?_ ?_ | (simp [cGTask, cI, cF, cGOp, cGEffect, cGCertificate, cN, take_len_map] <;> fail) | (rw [List.drop_zero, List.take_of_length_le] <;> first | rfl | (simp [cGTask, cI, cF, cGOp, cGEffect, cGCertificate, cN] <;> fail)) | (simp; omega) | (simp only [List.length_map, List.length_append, List.drop_zero, List.length_cons, List.length_nil, Nat.zero_add, Nat.add_zero] at *; omega))) : P := h
theorem zg_XDErr {P : Prop} (h : P := by repeat (first | exact True.intro | exact gb_nil rfl rfl | exact gb_take rfl ⟨rfl, rfl, rfl⟩ List.map_take FrI.h | refine gb_some ⟨rfl, rfl, rfl⟩ ?_ | refine And.intro ?_ ?_ | refine gw_ren rfl rfl rfl rfl rfl ?_ | exact gw_oren rfl rfl rfl rfl rfl | exact gw_opren rfl rfl rfl rfl rfl | exact gw_onil rfl rfl | refine gw_pren rfl rfl rfl rfl rfl | exact gw_thaw rfl rfl rfl | refine gw_tup ?_ | refine gw_ifc ?_ | exact GWL.nil | exact gwll_nil | exact gw_c | exact GW.sl | exact GW.nil | exact gwll_same rfl FrI.h | refine GWL.cons ?_ ?_ | refine gwll_cons ?_ ?_ | (refine gw_own3 rfl rfl rfl FrI.h ?_ ?_ ?_) | exact GW.fr FrV.h | exact GW.fr (by assumption) | refine gw_agg ?_ | refine gw_clo ?_ | refine gw_ptr rfl rfl rfl ?_ | (refine gw_own rfl rfl rfl ?_ FrI.h ?_ ?_) | assumption | omega | rfl | (rw [List.length_map, ← List.length_append]; assumption) | (refine gwll_same ?_ FrI.h; (simp [cGTask, cI, cF, cGOp, cGEffect, cGCertificate, cN] <;> fail)) | (rw [List.map_set]; refine gwll_set (by first | rfl | omega | simp) ?_ ?_) | refine gwll_set (by first | rfl | omega | simp) ?_ ?_ | (rw [List.map_replicate]; refine gwll_rep ?_) | refine gwll_rep ?_ | (rw [List.map_append]; refine gwll_append ?_ ?_) | refine gwll_append ?_ ?_ | (simp [cGTask, cI, cF, cGOp, cGEffect, cGCertificate, cN, take_len_map] <;> fail) | (rw [List.drop_zero, List.take_of_length_le] <;> first | rfl | (simp [cGTask, cI, cF, cGOp, cGEffect, cGCertificate, cN] <;> fail)) | (simp; omega) | (simp only [List.length_map, List.length_append, List.drop_zero, List.length_cons, List.length_nil, Nat.zero_add, Nat.add_zero] at *; omega))) : P := h
theorem ci_XDErr {p K : Prop} (k : K) (h : p := by first | rfl | exact ⟨rfl, rfl⟩ | exact BW.fr FrV.h | (refine BW.fr ?_; assumption) | (refine ⟨rfl, ?_⟩; (simp [cGTask, cI, cF, cGOp, cGEffect, cGCertificate, cN, take_len_map]; done)) | (refine RowK.same ?_ FrI.h; first | rfl | (simp [cGTask, cI, cF, cGOp, cGEffect, cGCertificate, cN, take_len_map]; done)) | (refine row_part1 ?_; (exact zb_XDErr); done) | ((exact zb_XDErr); done) | (simp [cGTask, cI, cF, cGOp, cGEffect, cGCertificate, cN, take_len_map]; done)) : p ∧ K := ⟨h, k⟩
theorem ca_XDErr {P : Prop} (h : P := by repeat (first | exact True.intro | refine ci_XDErr ?_)) : P := h
theorem pr_XDErr {p K : Prop} (k : K) (h : p := by first | assumption | exact Int.natCast_nonneg _ | exact Nat.le_refl _ | exact Nat.zero_le _ | omega | (simp; done) | (simp; omega)) : p ∧ K := ⟨h, k⟩
theorem pl_XDErr {p K : Prop} (k : K) (h : p := by first | rfl | exact List.length_map _ | (simp; done) | (simp; omega)) : p ∧ K := ⟨h, k⟩
theorem pe_XDErr {p K : Prop} (k : K) (h : p := by first | omega | (simp; omega) | (simp only [List.length_map, List.length_cons, List.length_nil, List.length_append]; omega) | (simp only [List.length_map, List.drop_zero, List.length_cons, List.length_nil, Nat.zero_add, Nat.add_zero] at *; omega)) : p ∧ K := ⟨h, k⟩
theorem dr_XDErr {b : Bool} {p K : Prop} (k : K) (h : b = true → p := by intro h; first | (cases h; done) | exact ⟨by kernel_rfl, by kernel_rfl⟩) : (b = true → p) ∧ K := ⟨h, k⟩
theorem cl_XDErr {C : Cx} {n : Nat} {o : Oper} {τ : Nat → AV} {η : Nat → Ent} {f : FuncId} {os : Array Operand} {ats : Array TypeId} {r : AV} {args : List AV} {K : Foot → Prop} (ho : o.op = .call ⟨.value (.func f), os, ats⟩) (hc : ACall C f args r) (k : K ⟨r, [], []⟩)
    (hd : InB n o.dst := by exact Nat.le_of_ble_eq_true rfl) (hargs : os.toList.map (evA τ) = args := by first | rfl | (simp [cGTask, cI, cF, cGOp, cGEffect, cGCertificate, cN]; done) | (repeat (first | exact rfl | refine cons_eq ?_ ?_ | exact sl_dt rfl))) (hfr : frs args := by repeat (first | exact trivial | exact fr1_eA _ | exact fr0_eA _ | exact fr1_fr (by assumption) | exact FrV.h | refine And.intro ?_ ?_)) (hr : fr1 r := by repeat (first | exact trivial | exact fr1_eA _ | exact fr0_eA _ | exact fr1_fr (by assumption) | exact FrV.h | refine And.intro ?_ ?_)) : ∃ f : Foot, LF C n o τ η f ∧ K f := ⟨_, lf_call ho hd hargs hc hfr hr, k⟩
theorem clf_XDErr {C : Cx} {n : Nat} {o : Oper} {τ : Nat → AV} {η : Nat → Ent} {f : FuncId} {os : Array Operand} {ats : Array TypeId} {r : AV} {xs ys : List AV} {K : Foot → Prop} (us : List (Nat × Ent)) (ho : o.op = .call ⟨.value (.func f), os, ats⟩) (hargs : os.toList.map (evA τ) = xs) (hc : ACall C f ys r) (k : K ⟨r, us, []⟩)
    (hus : allUs η us := by repeat (first | exact trivial | refine And.intro rfl ?_)) (hul : ltUs n us := by repeat (first | exact trivial | refine And.intro (Nat.le_of_ble_eq_true rfl) ?_)) (hd : InB n o.dst := by exact Nat.le_of_ble_eq_true rfl) (hb : BWL η (dropB η (us.map (·.1))) xs ys := by exact zb_XDErr) (hr : fr1 r := by repeat (first | exact trivial | exact fr1_eA _ | exact fr0_eA _ | exact fr1_fr (by assumption) | exact FrV.h | refine And.intro ?_ ?_)) : ∃ f : Foot, LF C n o τ η f ∧ K f := ⟨_, lf_callF us (allUs_at hus) (ltUs_at hul) ho hd hargs hb hc hr, k⟩
theorem clg_XDErr {C : Cx} {n : Nat} {o : Oper} {τ : Nat → AV} {η : Nat → Ent} {f : FuncId} {os : Array Operand} {ats : Array TypeId} {r : AV} {xs ys : List AV} {bs bs' : List (Nat × Blk)} {ks : List Nat} {K : Foot → Prop} (ρ : List (Nat × Nat)) (fz : List Nat) (go nb : List (Nat × Ent)) (r' : AV) (ho : o.op = .call ⟨.value (.func f), os, ats⟩) (hargs : os.toList.map (evA τ) = xs)
    (hc : ACallG C f ys bs ks r bs') (k : K ⟨r', go ++ nb, []⟩) (hd : InB n o.dst := by exact Nat.le_of_ble_eq_true rfl) (hok : okC ρ fz bs ks bs' (idsE go) = true := by rfl) (hgo : allUs η go := by repeat (first | exact trivial | refine And.intro rfl ?_)) (hgl : ltUs n go := by repeat (first | exact trivial | refine And.intro (Nat.le_of_ble_eq_true rfl) ?_))
    (hw : GWL η (fE bs) (lk ρ) (fun i => inB fz i = true) (fun i => inB (keys bs) i = true) xs ys := by exact zg_XDErr) (hb : GBL η (fE bs) (lk ρ) (fun i => inB fz i = true) (fun i => inB (keys bs) i = true) bs := by exact zg_XDErr)
    (hr : GW (fE bs') (updAll η (go ++ nb)) (lk (backN ρ bs')) (fun _ => False) (fun i => inB (idsE nb) i = true) r r' := by exact zg_XDErr)
    (hnb : nbOk n η (updAll η (go ++ nb)) ρ ks (fE bs') (lk (backN ρ bs')) (fun i => inB (idsE nb) i = true) bs' nb := by repeat (first | exact True.intro | rfl | exact Nat.le_of_ble_eq_true rfl | exact gb_nil rfl rfl | exact gb_take rfl ⟨rfl, rfl, rfl⟩ List.map_take FrI.h | refine gb_some ⟨rfl, rfl, rfl⟩ ?_ | refine And.intro ?_ ?_ | refine gw_ren rfl rfl rfl rfl rfl ?_ | exact gw_oren rfl rfl rfl rfl rfl | exact gw_opren rfl rfl rfl rfl rfl | exact gw_onil rfl rfl | refine gw_pren rfl rfl rfl rfl rfl | exact gw_thaw rfl rfl rfl | refine gw_tup ?_ | refine gw_ifc ?_ | exact GWL.nil | exact gwll_nil | exact gw_c | exact GW.sl | exact GW.nil | exact gwll_same rfl FrI.h | refine GWL.cons ?_ ?_ | refine gwll_cons ?_ ?_ | (refine gw_own3 rfl rfl rfl FrI.h ?_ ?_ ?_) | exact GW.fr FrV.h | exact GW.fr (by assumption) | refine gw_agg ?_ | refine gw_clo ?_ | refine gw_ptr rfl rfl rfl ?_ | (refine gw_own rfl rfl rfl ?_ FrI.h ?_ ?_) | assumption | omega | rfl | (rw [List.length_map, ← List.length_append]; assumption) | (refine gwll_same ?_ FrI.h; (simp [cGTask, cI, cF, cGOp, cGEffect, cGCertificate, cN] <;> fail)) | (rw [List.map_set]; refine gwll_set (by first | rfl | omega | simp) ?_ ?_) | refine gwll_set (by first | rfl | omega | simp) ?_ ?_ | (rw [List.map_replicate]; refine gwll_rep ?_) | refine gwll_rep ?_ | (rw [List.map_append]; refine gwll_append ?_ ?_) | refine gwll_append ?_ ?_ | (simp [cGTask, cI, cF, cGOp, cGEffect, cGCertificate, cN, take_len_map] <;> fail) | (rw [List.drop_zero, List.take_of_length_le] <;> first | rfl | (simp [cGTask, cI, cF, cGOp, cGEffect, cGCertificate, cN] <;> fail)) | (simp; omega) | (simp only [List.length_map, List.length_append, List.drop_zero, List.length_cons, List.length_nil, Nat.zero_add, Nat.add_zero] at *; omega))) : ∃ f : Foot, LF C n o τ η f ∧ K f := ⟨_, lf_callG ρ fz go nb ho hd hargs hc hok hgo hgl hw hb hr hnb, k⟩
def M_checker_Where (a0 : GTask) (_ : GCertificate) (_ : Int) : Option (Int × Int × Er) :=
  ob1 (M_task_Check a0) (fun z1 =>
   erM z1
    (none)
    (fun e2 => some ((-1), (-1), (Er.no e2))))
theorem A_checker_Where (a0 : GTask) (a1 : GCertificate) (a2 : Int) {r1 : Int} {r2 : Int} {r3 : Er} (h : M_checker_Where a0 a1 a2 = some (r1, r2, r3)) : ACall cx 56 [.agg [.sl 1 (a0.Vars.map cI), .sl 1 (a0.Init.map cI), .sl 2 (a0.Goal.map cF), .sl 4 (a0.Ops.map cGOp)], .agg [.c (.int .i64 a1.Bound), .sl 2 (a1.Nogoods.map cN)], .c (.int .i64 a2)] (.tup [.c (.int .i64 r1), .c (.int .i64 r2), eA r3]) := by
  refine aOf Tryz.func56 rfl (by decide) rfl (Nat.le_of_ble_eq_true rfl) ?_; intro _; unfold M_checker_Where at h; refine aSR ?_; intro _; refine dr_XDErr ?_; refine aSq ?_; refine aSR ?_; intro _; obtain ⟨z1, u1, h⟩ := ob1_ok h; refine cl_XDErr rfl (A_task_Check a0 u1) ?_; intro _; refine dr_XDErr ?_; refine aSq ?_; rcases z1 with _ | e2
  · replace h := erM_nil h; refine aRg ?_; intro _; refine dr_XDErr ?_; refine aCd ?_; intro _; refine litF ?_; refine aSk ?_; refine aSq ?_; refine aSq ?_; cases h
  · replace h := erM_no h; refine aRg ?_; intro _; refine dr_XDErr ?_; refine aCd ?_; intro _; refine litT ?_; refine aSR ?_; intro _; refine dr_XDErr ?_; refine aRt ?_; intro _; obtain ⟨rfl, rfl, rfl⟩ := inj3 h; exact ca_XDErr
def M_checker_Verify (a0 : GTask) (a1 : GCertificate) (a2 : Int) : Option (Er) :=
  ob3 (M_checker_Where a0 a1 a2) (fun _ _ z3 =>
   some z3)
theorem A_checker_Verify (a0 : GTask) (a1 : GCertificate) (a2 : Int) {r1 : Er} (h : M_checker_Verify a0 a1 a2 = some r1) : ACall cx 26 [.agg [.sl 1 (a0.Vars.map cI), .sl 1 (a0.Init.map cI), .sl 2 (a0.Goal.map cF), .sl 4 (a0.Ops.map cGOp)], .agg [.c (.int .i64 a1.Bound), .sl 2 (a1.Nogoods.map cN)], .c (.int .i64 a2)] (eA r1) := by
  refine aOf Tryz.func26 rfl (by decide) rfl (Nat.le_of_ble_eq_true rfl) ?_; intro _; unfold M_checker_Verify at h; refine aSR ?_; intro _; refine dr_XDErr ?_; refine aSR ?_; intro _; obtain ⟨z1, z2, z3, u1, h⟩ := ob3_ok h; refine cl_XDErr rfl (A_checker_Where a0 a1 a2 u1) ?_; intro _; refine dr_XDErr ?_; refine aSR ?_; intro _; refine dr_XDErr ?_; refine aRt ?_; intro _; obtain rfl := inj1 h; all_goals (cases z3); all_goals exact ca_XDErr
def M_certify_copied_L1 (a0 : GCertificate) : Nat → Int → (List Nogood) → Option (GCertificate)
  | 0, _, _ => none
  | k9 + 1, v7, v8 =>
    sel (decide (v7 < ((a0.Nogoods.map cN).length : Int)))
     (ix a0.Nogoods v7 (fun y10 =>
       ob1 (M_cloneF y10.1) (fun z11 =>
        grd ((v8.length + 1) * 32 ≤ 140737488355328) (grd (z11.length ≤ 140737488355328) (M_certify_copied_L1 a0 k9 (IntKind.i64.wrap (v7 + 1)) (v8 ++ [(z11, y10.2)]))))))
     (grd (v8.length ≤ 140737488355328) (some ({ Bound := a0.Bound, Nogoods := v8 : GCertificate })))
def M_certify_copied (a0 : GCertificate) : Option (GCertificate) :=
  M_certify_copied_L1 a0 ((((a0.Nogoods.map cN).length : Int)).toNat + 1) 0 []
theorem A_certify_copied (a0 : GCertificate) {r1 : GCertificate} (h : M_certify_copied a0 = some r1) : ACall cx 57 [.agg [.c (.int .i64 a0.Bound), .sl 2 (a0.Nogoods.map cN)]] (.agg [.c (.int .i64 r1.Bound), .sl 2 (r1.Nogoods.map cN)]) := by
  refine aOf Tryz.func57 rfl (by decide) rfl (Nat.le_of_ble_eq_true rfl) ?_; intro _; unfold M_certify_copied at h; refine aSR ?_; intro _; refine dr_XDErr ?_; refine aSR ?_; intro _; refine dr_XDErr ?_; refine aSq ?_; refine aSR ?_; intro _; refine dr_XDErr ?_; refine aBk ?_; refine awp_loop (α := Nat × Int × (List Nogood)) (fun x => mkS 29 [(2, .ptr 2 0 0 0), (3, .ptr 3 0 0 0), (10, .sl 2 (a0.Nogoods.map cN)), (11, .c (.int .i64 ((a0.Nogoods.map cN).length : Int))), (12, .c (.int .i64 x.2.1))] [(2, ⟨31, 2, true, [[.c (.int .i64 0), .c (.slice none 0 0)]]⟩), (3, ⟨31, 2, true, [[.c (.int .i64 a0.Bound), .own 25 0 0 x.2.2.length]]⟩), (25, ⟨40, 2, false, x.2.2.map cN⟩)]) (fun x => M_certify_copied_L1 a0 x.1 x.2.1 x.2.2 = some r1) (fun x => x.1) ((((a0.Nogoods.map cN).length : Int)).toNat + 1, 0, []) h ?_ ?_
  · exact ca_XDErr
  · intro x1 h; intro _; obtain ⟨k9, m2, h⟩ := succ_of (f := fun n => M_certify_copied_L1 a0 n x1.2.1 x1.2.2) rfl h; replace h : M_certify_copied_L1 a0 (k9 + 1) x1.2.1 x1.2.2 = some r1 := h; rw [M_certify_copied_L1] at h; refine aSR ?_; intro _; refine dr_XDErr ?_; refine aSq ?_; refine aCd ?_; intro _; refine spl h (fun c3 h => ?_) (fun c3 h => ?_)
    · refine aSk ?_; refine aSq ?_; refine aBk ?_; refine aSR ?_; intro _; obtain ⟨y10, w4, q5, h⟩ := ix_ok h; refine Exists.intro (cN y10) (And.intro (map_at' w4) ?_); intro _; refine pr_XDErr ?_; refine dr_XDErr ?_; refine aRg ?_; intro _; obtain ⟨z11, u6, h⟩ := ob1_ok h; refine clg_XDErr [(0, 20)] [] [] [(20, ⟨2, some ⟨68, 2, false, z11.map cF⟩⟩)] (.own 20 2 0 z11.length) rfl rfl (A_cloneF y10.1 u6) ?_; intro _; obtain ⟨q7, h⟩ := grd_ok h; refine pl_XDErr ?_; refine pl_XDErr ?_; refine And.intro (by first | with_reducible assumption | (show (x1.2.2.length + 1) * 32 ≤ 140737488355328; with_reducible assumption) | omega | (simp; omega)) ?_; refine pe_XDErr ?_; refine dr_XDErr ?_; refine aRg ?_; intro _; refine dr_XDErr ?_; obtain ⟨q8, h⟩ := grd_ok h; refine ⟨(k9, (IntKind.i64.wrap (x1.2.1 + 1)), (x1.2.2 ++ [(z11, y10.2)])), h, ltS m2, ?_⟩; exact ca_XDErr
    · refine aEx ?_; refine aSR ?_; intro _; refine dr_XDErr ?_; refine aRt ?_; obtain ⟨q9, h⟩ := grd_ok h; intro _; obtain rfl := inj1 h; exact ca_XDErr
def M_certify_Weaken_L1 (v84 : Int) (z3 : GCertificate) : Nat → Option (Unit)
  | 0 => none
  | _ + 1 =>
    ix z3.Nogoods v84 (fun y98 =>
     sel (decide (0 < ((y98.1.map cF).length : Int)))
      (ob1 (M_certify_copied z3) (fun _ =>
        none))
      (some ()))
def M_certify_Weaken_L2 (g : Nat) (z3 : GCertificate) : Nat → Int → Option (Unit)
  | 0, _ => none
  | k85 + 1, v84 =>
    sel (decide (v84 < ((z3.Nogoods.map cN).length : Int)))
     (ob1 (M_certify_Weaken_L1 v84 z3 g  : Option (Unit))
       (fun _ => M_certify_Weaken_L2 g z3 k85 (IntKind.i64.wrap (v84 + 1))))
     (some ())
def M_certify_Weaken_L3 (z3 : GCertificate) : Nat → Option (GCertificate × Er)
  | 0 => none
  | _ + 1 =>
    sel (decide (0 < ((z3.Nogoods.map cN).length : Int)))
     (ob1 (M_certify_copied z3) (fun _ =>
       none))
     (some (z3, Er.nil))
def M_certify_Weaken (g : Nat) (a0 : GTask) (a1 : GCertificate) (a2 : Int) : Option (GCertificate × Er) :=
  ob1 (M_checker_Verify a0 a1 a2) (fun z1 =>
   erM z1
    (ob1 (M_certify_copied a1) (fun z3 =>
      ob1 (M_certify_Weaken_L2 g z3 ((((z3.Nogoods.map cN).length : Int)).toNat + 1) 0 : Option (Unit))
       (fun _ => M_certify_Weaken_L3 z3 g )))
    (fun e2 => some ({ Bound := 0, Nogoods := [] : GCertificate }, (Er.no e2))))
theorem A_certify_Weaken (g : Nat) (a0 : GTask) (a1 : GCertificate) (a2 : Int) {r1 : GCertificate} {r2 : Er} (h : M_certify_Weaken g a0 a1 a2 = some (r1, r2)) : ACall cx 32 [.agg [.sl 1 (a0.Vars.map cI), .sl 1 (a0.Init.map cI), .sl 2 (a0.Goal.map cF), .sl 4 (a0.Ops.map cGOp)], .agg [.c (.int .i64 a1.Bound), .sl 2 (a1.Nogoods.map cN)], .c (.int .i64 a2)] (.tup [.agg [.c (.int .i64 r1.Bound), .sl 2 (r1.Nogoods.map cN)], eA r2]) := by
  refine aOf Tryz.func32 rfl (by decide) rfl (Nat.le_of_ble_eq_true rfl) ?_; intro _; unfold M_certify_Weaken at h; refine aSR ?_; intro _; refine dr_XDErr ?_; refine aSq ?_; refine aSR ?_; intro _; obtain ⟨z1, u1, h⟩ := ob1_ok h; refine cl_XDErr rfl (A_checker_Verify a0 a1 a2 u1) ?_; intro _; refine dr_XDErr ?_; refine aSq ?_; rcases z1 with _ | e2
  · replace h := erM_nil h; refine aRg ?_; intro _; refine dr_XDErr ?_; refine aCd ?_; intro _; refine litF ?_; refine aSk ?_; refine aSR ?_; intro _; obtain ⟨z3, u2, h⟩ := ob1_ok h; refine cl_XDErr rfl (A_certify_copied a1 u2) ?_; intro _; refine dr_XDErr ?_; obtain ⟨o3, h, hK4⟩ := ob1_ok h; refine awp_cut (α := Unit) (fun _ => mkS 88 [(2, .c (.int .i64 a2)), (3, .ptr 3 0 0 0), (4, .ptr 4 0 0 0), (6, .ptr 6 0 0 0)] [(3, ⟨26, 4, true, [[.sl 1 (a0.Vars.map cI), .sl 1 (a0.Init.map cI), .sl 2 (a0.Goal.map cF), .sl 4 (a0.Ops.map cGOp)]]⟩), (4, ⟨31, 2, true, [[.c (.int .i64 z3.Bound), .sl 2 (z3.Nogoods.map cN)]]⟩), (6, ⟨31, 2, true, [[.c (.int .i64 0), .c (.slice none 0 0)]]⟩)]) (fun v => o3 = v) ?_ ?_
    · refine aSR ?_; intro _; refine dr_XDErr ?_; refine aBk ?_; refine awp_loop (α := Nat × Int) (fun x => mkS 88 [(2, .c (.int .i64 a2)), (3, .ptr 3 0 0 0), (4, .ptr 4 0 0 0), (6, .ptr 6 0 0 0), (26, .c (.int .i64 ((z3.Nogoods.map cN).length : Int))), (27, .c (.int .i64 x.2))] [(3, ⟨26, 4, true, [[.sl 1 (a0.Vars.map cI), .sl 1 (a0.Init.map cI), .sl 2 (a0.Goal.map cF), .sl 4 (a0.Ops.map cGOp)]]⟩), (4, ⟨31, 2, true, [[.c (.int .i64 z3.Bound), .sl 2 (z3.Nogoods.map cN)]]⟩), (6, ⟨31, 2, true, [[.c (.int .i64 0), .c (.slice none 0 0)]]⟩)]) (fun x => M_certify_Weaken_L2 g z3 x.1 x.2 = some o3) (fun x => x.1) ((((z3.Nogoods.map cN).length : Int)).toNat + 1, 0) h ?_ ?_
      · exact ca_XDErr
      · intro x5 h; intro _; obtain ⟨k85, m6, h⟩ := succ_of (f := fun n => M_certify_Weaken_L2 g z3 n x5.2) rfl h; replace h : M_certify_Weaken_L2 g z3 (k85 + 1) x5.2 = some o3 := h; rw [M_certify_Weaken_L2] at h; refine aSR ?_; intro _; refine dr_XDErr ?_; refine aSq ?_; refine aCd ?_; intro _; refine spl h (fun c7 h => ?_) (fun c7 h => ?_)
        · refine aSk ?_; obtain ⟨o8, h, hK9⟩ := ob1_ok h; refine awp_cut (α := Unit) (fun _ => mkS 88 [(2, .c (.int .i64 a2)), (3, .ptr 3 0 0 0), (4, .ptr 4 0 0 0), (6, .ptr 6 0 0 0), (26, .c (.int .i64 ((z3.Nogoods.map cN).length : Int))), (27, .c (.int .i64 x5.2))] [(3, ⟨26, 4, true, [[.sl 1 (a0.Vars.map cI), .sl 1 (a0.Init.map cI), .sl 2 (a0.Goal.map cF), .sl 4 (a0.Ops.map cGOp)]]⟩), (4, ⟨31, 2, true, [[.c (.int .i64 z3.Bound), .sl 2 (z3.Nogoods.map cN)]]⟩), (6, ⟨31, 2, true, [[.c (.int .i64 0), .c (.slice none 0 0)]]⟩)]) (fun v => o8 = v) ?_ ?_
          · refine aBk ?_; refine aSR ?_; intro _; refine dr_XDErr ?_; refine aSR ?_; intro _; refine dr_XDErr ?_; refine aBk ?_; refine awp_loop (α := Nat) (fun x => mkS 88 [(2, .c (.int .i64 a2)), (3, .ptr 3 0 0 0), (4, .ptr 4 0 0 0), (6, .ptr 6 0 0 0), (9, .c (.int .i64 x5.2)), (10, .c (.int .i64 0)), (26, .c (.int .i64 ((z3.Nogoods.map cN).length : Int))), (27, .c (.int .i64 x5.2))] [(3, ⟨26, 4, true, [[.sl 1 (a0.Vars.map cI), .sl 1 (a0.Init.map cI), .sl 2 (a0.Goal.map cF), .sl 4 (a0.Ops.map cGOp)]]⟩), (4, ⟨31, 2, true, [[.c (.int .i64 z3.Bound), .sl 2 (z3.Nogoods.map cN)]]⟩), (6, ⟨31, 2, true, [[.c (.int .i64 0), .c (.slice none 0 0)]]⟩)]) (fun x => M_certify_Weaken_L1 x5.2 z3 x = some o8) (fun x => x) g h ?_ ?_
            · exact ca_XDErr
            · intro x10 h; intro _; obtain ⟨k97, m11, h⟩ := succ_of (f := fun n => M_certify_Weaken_L1 x5.2 z3 n) rfl h; replace h : M_certify_Weaken_L1 x5.2 z3 (k97 + 1) = some o8 := h; rw [M_certify_Weaken_L1] at h; refine aSq ?_; refine aSR ?_; intro _; obtain ⟨y98, w12, q13, h⟩ := ix_ok h; refine Exists.intro (cN y98) (And.intro (map_at' w12) ?_); intro _; refine pr_XDErr ?_; refine dr_XDErr ?_; refine aCd ?_; intro _; refine spl h (fun c14 h => ?_) (fun c14 h => ?_)
              · refine aSk ?_; refine aBk ?_; refine aSR ?_; intro _; obtain ⟨z99, u15, h⟩ := ob1_ok h; refine cl_XDErr rfl (A_certify_copied z3 u15) ?_; intro _; refine dr_XDErr ?_; refine aSq ?_; cases h
              · refine aEx ?_; refine ⟨(), (Option.some.inj h).symm, ?_⟩; exact ca_XDErr
          · rintro _ ho; have ho := ho.symm; subst ho; intro _; replace h := hK9; refine aRg ?_; intro _; refine dr_XDErr ?_; refine ⟨(k85, (IntKind.i64.wrap (x5.2 + 1))), h, ltS m6, ?_⟩; exact ca_XDErr
        · refine aEx ?_; refine ⟨(), (Option.some.inj h).symm, ?_⟩; exact ca_XDErr
    · rintro _ ho; have ho := ho.symm; subst ho; intro _; replace h := hK4; refine aSq ?_; refine aSR ?_; intro _; refine dr_XDErr ?_; refine aBk ?_; refine awp_loop (α := Nat) (fun x => mkS 88 [(2, .c (.int .i64 a2)), (3, .ptr 3 0 0 0), (4, .ptr 4 0 0 0), (6, .ptr 6 0 0 0), (12, .c (.int .i64 0))] [(3, ⟨26, 4, true, [[.sl 1 (a0.Vars.map cI), .sl 1 (a0.Init.map cI), .sl 2 (a0.Goal.map cF), .sl 4 (a0.Ops.map cGOp)]]⟩), (4, ⟨31, 2, true, [[.c (.int .i64 z3.Bound), .sl 2 (z3.Nogoods.map cN)]]⟩), (6, ⟨31, 2, true, [[.c (.int .i64 0), .c (.slice none 0 0)]]⟩)]) (fun x => M_certify_Weaken_L3 z3 x = some (r1, r2)) (fun x => x) g h ?_ ?_
      · exact ca_XDErr
      · intro x16 h; intro _; obtain ⟨k102, m17, h⟩ := succ_of (f := fun n => M_certify_Weaken_L3 z3 n) rfl h; replace h : M_certify_Weaken_L3 z3 (k102 + 1) = some (r1, r2) := h; rw [M_certify_Weaken_L3] at h; refine aSq ?_; refine aSR ?_; intro _; refine dr_XDErr ?_; refine aCd ?_; intro _; refine spl h (fun c18 h => ?_) (fun c18 h => ?_)
        · refine aSk ?_; refine aBk ?_; refine aSR ?_; intro _; obtain ⟨z103, u19, h⟩ := ob1_ok h; refine cl_XDErr rfl (A_certify_copied z3 u19) ?_; intro _; refine dr_XDErr ?_; refine aSq ?_; cases h
        · refine aEx ?_; refine aSR ?_; intro _; refine dr_XDErr ?_; refine aRt ?_; intro _; obtain ⟨rfl, rfl⟩ := inj2 h; exact ca_XDErr
  · replace h := erM_no h; refine aRg ?_; intro _; refine dr_XDErr ?_; refine aCd ?_; intro _; refine litT ?_; refine aSR ?_; intro _; refine dr_XDErr ?_; refine aRt ?_; intro _; obtain ⟨rfl, rfl⟩ := inj2 h; exact ca_XDErr
def M_l32_CertifyErrors (g : Nat) (a0 : GTask) (a1 : Int) : Option (Bool) :=
  ob1 (sel (decide (((a0.Vars.map cI).length : Int) > 70))
    (ob1 (M_l32_awake g) (fun z10 =>
      some (.inr z10)))
    (sel (decide (((a0.Ops.map cGOp).length : Int) > 20))
      (ob1 (M_l32_awake g) (fun z9 =>
        some (.inr z9)))
      (ob1 (M_l32_awake g) (fun z7 =>
        sel (!z7)
         (ob1 (M_l32_awake g) (fun z8 =>
           some (.inr z8)))
         (some (.inl ()))))) : Option (Unit ⊕ Bool))
   (osum
   (fun _ => ob1 (M_r05_Check a0) (fun z11 =>
      sel (z11 == 0)
       (some true)
       (ob2 (M_certify_Lower g a0 a1 10) (fun _ z13 =>
         ob2 (M_certify_FromTable g a0 [] [0] a1) (fun _ z15 =>
          ob2 (M_certify_Weaken g a0 ({ Bound := 0, Nogoods := [] : GCertificate }) 10) (fun _ z17 =>
           ob1 (M_b_Num z13) (fun z18 =>
            sel (z18 == z11)
             (ob1 (M_b_Num z15) (fun z19 =>
               sel (z19 == z11)
                (ob1 (M_b_Num z17) (fun z20 =>
                  some (z20 == z11)))
                (some false)))
             (some false))))))))
   (fun r5 => some r5))
theorem A_l32_CertifyErrors (g : Nat) (a0 : GTask) (a1 : Int) {r1 : Bool} (h : M_l32_CertifyErrors g a0 a1 = some r1) : ACall cx 10 [.agg [.sl 1 (a0.Vars.map cI), .sl 1 (a0.Init.map cI), .sl 2 (a0.Goal.map cF), .sl 4 (a0.Ops.map cGOp)], .c (.int .i64 a1)] (.c (.bool r1)) := by
  refine aOf Tryz.func10 rfl (by decide) rfl (Nat.le_of_ble_eq_true rfl) ?_; intro _; unfold M_l32_CertifyErrors at h; refine aSR ?_; intro _; refine dr_XDErr ?_; obtain ⟨o1, h, hK2⟩ := ob1_ok h; refine awp_cut (α := Unit) (fun _ => mkS 66 [(1, .c (.int .i64 a1)), (2, .ptr 2 0 0 0)] [(2, ⟨26, 4, true, [[.sl 1 (a0.Vars.map cI), .sl 1 (a0.Init.map cI), .sl 2 (a0.Goal.map cF), .sl 4 (a0.Ops.map cGOp)]]⟩)]) (fun v => o1 = (.inl v)) ?_ ?_
  · refine aSR ?_; intro _; refine spf h (fun c3 h => ?_) (fun c3 h => ?_)
    · intro _; refine spf h (fun c4 h => ?_) (fun c4 h => ?_)
      · intro _; obtain ⟨z7, u5, h⟩ := ob1_ok h; refine cl_XDErr rfl (A_l32_awake g u5) ?_; intro _; refine dr_XDErr ?_; refine aCd ?_; intro _; refine spl h (fun c6 h => ?_) (fun c6 h => ?_)
        · refine aSR ?_; intro _; obtain ⟨z8, u7, h⟩ := ob1_ok h; refine cl_XDErr rfl (A_l32_awake g u7) ?_; intro _; refine dr_XDErr ?_; refine aRt ?_; have j8 := Option.some.inj h; subst j8; replace h := (osum_r hK2); intro _; obtain rfl := inj1 h; exact ca_XDErr
        · refine aSk ?_; refine ⟨(), (Option.some.inj h).symm, ?_⟩; exact ca_XDErr
      · intro _; refine dr_XDErr ?_; refine aCd ?_; intro _; refine litT ?_; refine aSR ?_; intro _; obtain ⟨z9, u9, h⟩ := ob1_ok h; refine cl_XDErr rfl (A_l32_awake g u9) ?_; intro _; refine dr_XDErr ?_; refine aRt ?_; have j10 := Option.some.inj h; subst j10; replace h := (osum_r hK2); intro _; obtain rfl := inj1 h; exact ca_XDErr
    · intro _; refine dr_XDErr ?_; refine aCd ?_; intro _; refine litT ?_; refine aSR ?_; intro _; obtain ⟨z10, u11, h⟩ := ob1_ok h; refine cl_XDErr rfl (A_l32_awake g u11) ?_; intro _; refine dr_XDErr ?_; refine aRt ?_; have j12 := Option.some.inj h; subst j12; replace h := (osum_r hK2); intro _; obtain rfl := inj1 h; exact ca_XDErr
  · rintro _ ho; have ho := ho.symm; subst ho; intro _; replace h := (osum_l hK2); refine aSR ?_; intro _; obtain ⟨z11, u13, h⟩ := ob1_ok h; refine cl_XDErr rfl (A_r05_Check a0 u13) ?_; intro _; refine dr_XDErr ?_; refine aSq ?_; refine aSR ?_; intro _; refine dr_XDErr ?_; refine aCd ?_; intro _; refine spl h (fun c14 h => ?_) (fun c14 h => ?_)
    · refine aSR ?_; intro _; refine dr_XDErr ?_; refine aRt ?_; intro _; obtain rfl := inj1 h; exact ca_XDErr
    · refine aSk ?_; refine aSR ?_; intro _; obtain ⟨z12, z13, u15, h⟩ := ob2_ok h; refine cl_XDErr rfl (A_certify_Lower g a0 a1 10 u15) ?_; intro _; refine dr_XDErr ?_; refine aSR ?_; intro _; obtain ⟨z14, z15, u16, h⟩ := ob2_ok h; refine clf_XDErr [(39, ⟨2, none⟩)] rfl rfl (A_certify_FromTable g a0 [] [0] a1 u16) ?_; intro _; refine dr_XDErr ?_; refine aSR ?_; intro _; obtain ⟨z16, z17, u17, h⟩ := ob2_ok h; refine clf_XDErr [] rfl rfl (A_certify_Weaken g a0 ({ Bound := 0, Nogoods := [] : GCertificate }) 10 u17) ?_; intro _; refine dr_XDErr ?_; refine aSR ?_; intro _; obtain ⟨z18, u18, h⟩ := ob1_ok h; refine cl_XDErr rfl (A_b_Num z13 u18) ?_; intro _; refine spl h (fun c19 h => ?_) (fun c19 h => ?_)
      · intro _; obtain ⟨z19, u20, h⟩ := ob1_ok h; refine cl_XDErr rfl (A_b_Num z15 u20) ?_; intro _; refine spl h (fun c21 h => ?_) (fun c21 h => ?_)
        · intro _; obtain ⟨z20, u22, h⟩ := ob1_ok h; refine cl_XDErr rfl (A_b_Num z17 u22) ?_; intro _; refine dr_XDErr ?_; refine aRt ?_; intro _; obtain rfl := inj1 h; exact ca_XDErr
        · intro _; refine dr_XDErr ?_; refine aRt ?_; intro _; obtain rfl := inj1 h; exact ca_XDErr
      · intro _; refine dr_XDErr ?_; refine aRt ?_; intro _; obtain rfl := inj1 h; exact ca_XDErr
end Go.Proofs.YtohjegemooakpaaGreat.Am
/- Range loops of the models as recursions. -/
namespace Go.Proofs.YtohjegemooakpaaGreat.Am
end Go.Proofs.YtohjegemooakpaaGreat.Am
/- Plain law: CertifyErrors. -/
namespace Go.Proofs.YtohjegemooakpaaGreat.Am
open Go.RowKit
theorem errors_true (t : GTask) (ht : ShT t) (b : Int) : M_l32_CertifyErrors 100 t b = some true := by
  rw [M_l32_CertifyErrors, awake100]
  simp only [ob1_some, sel_dec, List.length_map]
  split
  · rfl
  · split
    · rfl
    · rw [Bool.not_true, sel_ff, ob1_some, osum_inl, ref_check t ht, ob1_some]
      cases hc : checkF t with
      | nil => rfl
      | no e =>
        have he := checkF_code hc
        have h1 : M_certify_Lower 100 t b 10 = some ({ Bound := 0, Nogoods := [] }, .no e) := by rw [M_certify_Lower, check_eq t ht, hc]; rfl
        have h2 : M_certify_FromTable 100 t [] [0] b = some ({ Bound := 0, Nogoods := [] }, .no e) := by rw [M_certify_FromTable, check_eq t ht, hc]; rfl
        have h3 : M_certify_Weaken 100 t { Bound := 0, Nogoods := [] } 10 = some ({ Bound := 0, Nogoods := [] }, .no e) := by rw [M_certify_Weaken, M_checker_Verify, M_checker_Where, check_eq t ht, hc]; rfl
        rw [erN, show (e == 0) = false from by rw [beq_eq_false_iff_ne]; exact he, sel_ff, h1, ob2_some, h2, ob2_some, h3, ob2_some, num_no, ob1_some, beq_self_eq_true, sel_tt, ob1_some, beq_self_eq_true, sel_tt, ob1_some, beq_self_eq_true]
end Go.Proofs.YtohjegemooakpaaGreat.Am
/- Opening arguments: slices of numbers, of facts, of nogoods, a certificate. -/
namespace Go.Proofs.YtohjegemooakpaaGreat
open Go.RowKit Go.ChangeShapes Go.WideShapes Go.Deep Go.Joins

section
variable {H : Type} {enc : TypeId × Value → H} {P : Program} {w : World} {base : Nat} {spare : Nat → Bool} {held : Bool}

/-- within the form's reach -/
def Sized (P : Program) (t : TypeId) (d : DataW H) : Prop := ∀ n ∈ d.weights P t, n ≤ reachBytes
theorem sized_arg {ts : List TypeId} {ds : List (DataW H)} (h : (DataW.weightsEach P ts ds).all (· ≤ reachBytes) = true) {j : Nat} {t : TypeId} {d : DataW H} (ht : ts[j]? = some t) (hd : ds[j]? = some d) : Sized P t d :=
  fun n hn => of_decide_eq_true (List.all_eq_true.1 h n (DataW.weights_mem_each ht hd n hn))
theorem sized_field {t : TypeId} {fs : Array Field} {parts : List (DataW H)} (h : Sized P t (.agg parts)) (hu : P.underlying t = some (.struct fs)) {j : Nat} {f : Field} {d : DataW H} (hf : fs[j]? = some f) (hd : parts[j]? = some d) : Sized P f.type d :=
  fun n hn => h n (by
    simp only [DataW.weights, hu]
    exact DataW.weights_mem_each (j := j) (by simp [List.getElem?_map, hf]) hd n hn)
theorem weightsAll_mem {e : TypeId} : ∀ {l : List (DataW H)} {d : DataW H}, d ∈ l → ∀ n ∈ d.weights P e, n ∈ DataW.weightsAll P e l
  | x :: l, d, hd, n, hn => by
    simp only [DataW.weightsAll, List.mem_append]
    rcases List.mem_cons.1 hd with rfl | h
    · exact Or.inl hn
    · exact Or.inr (weightsAll_mem h n hn)
theorem sized_elem {t e : TypeId} {elems sp : List (DataW H)} (h : Sized P t (.slice elems sp)) (hu : P.underlying t = some (.slice e)) {d : DataW H} (hd : d ∈ elems) : Sized P e d :=
  fun n hn => h n (by
    simp only [DataW.weights, hu, List.mem_cons, List.mem_append]
    exact Or.inr (Or.inl (weightsAll_mem hd n hn)))
theorem sized_len {t e : TypeId} {elems sp : List (DataW H)} (h : Sized P t (.slice elems sp)) (hu : P.underlying t = some (.slice e)) : elems.length * P.bytesOf e ≤ 140737488355328 := by
  have h1 := h ((elems.length + sp.length) * P.bytesOf e) (by simp [DataW.weights, hu])
  have h2 : elems.length * P.bytesOf e ≤ (elems.length + sp.length) * P.bytesOf e := Nat.mul_le_mul_right _ (by omega)
  have h3 : reachBytes ≤ 140737488355328 := by decide
  omega

end

theorem spot_of_cell {w : World} {p : Addr} {v : Value} (h : w.cell? p = some v) : p.spot = none := by
  unfold World.cell? at h
  split at h
  · split at h
    · cases h
    · rename_i hs; simpa using hs
  · cases h
theorem addr_of_cell {w : World} {a : Addr} {k : Nat} {v : Value} (h0 : ∃ u, w.cell? (a.add 0) = some u) (h : w.cell? (a.add k) = some v) : a = ⟨a.block, a.off, none⟩ ∧ w.cell? ⟨a.block, a.off + k, none⟩ = some v := by
  obtain ⟨u, hu⟩ := h0
  have hs := spot_of_cell hu
  obtain ⟨b, off, sp⟩ := a
  simp [Addr.add] at hs
  subst hs
  refine ⟨rfl, ?_⟩
  rw [← h]
  congr 1
  unfold Addr.add
  split
  · subst k; rfl
  · rfl

theorem list_of {α : Type} (n : Nat) (R : Nat → α → Prop) (h : ∀ i, i < n → ∃ x, R i x) : ∃ l : List α, l.length = n ∧ ∀ k x, l[k]? = some x → R k x := by
  induction n with
  | zero => exact ⟨[], rfl, fun k x hx => by simp at hx⟩
  | succ n ih =>
    obtain ⟨l, hl, hr⟩ := ih (fun i hi => h i (by omega))
    obtain ⟨x, hx⟩ := h n (by omega)
    refine ⟨l ++ [x], by simp [hl], fun k y hy => ?_⟩
    by_cases hk : k < n
    · rw [List.getElem?_append_left (by omega)] at hy
      exact hr k y hy
    · rw [List.getElem?_append_right (by omega)] at hy
      have hk' : k - l.length = 0 := by
        have := (List.getElem?_eq_some_iff.1 hy).1
        simp at this
        omega
      rw [hk'] at hy
      simp at hy
      subst hy
      obtain rfl : k = n := by omega
      exact hx

variable {H : Type} {enc : TypeId × Value → H} {w : World} {base : Nat} {spare : Nat → Bool} {held : Bool}
end Go.Proofs.YtohjegemooakpaaGreat
/- Opening arguments for the abstract machine: readers that compose. -/
namespace Go.Proofs.YtohjegemooakpaaGreat.Am
open Go.RowKit Go.ChangeShapes Go.WideShapes Go.Deep Go.Joins

/-- nothing is owned at the start -/
abbrev mZ : MM := mO (fun _ => False)
theorem noZ (b : Nat) : ¬ Owned nov mZ b := fun h => owned_nov.1 h

section
variable {H : Type} {enc : TypeId × Value → H} {P : Program} {w : World} {base : Nat} {spare : Nat → Bool} {held : Bool}
/-- cells that stand for the values -/
def CellsRv (w : World) (es : List AV) (cs : List Value) : Prop := es.length = cs.length ∧ (∀ (j : Nat) (y : AV) (u : Value), es[j]? = some y → cs[j]? = some u → RV w nov mZ y u ∧ u.oneCell' = true) ∧ ∀ y ∈ es, Fr y
/-- data of type t read as an α -/
def Opens (enc : TypeId × Value → H) (P : Program) (w : World) (base : Nat) (spare : Nat → Bool) (held : Bool) (t : TypeId) {α : Type} (en : α → List AV) (R : α → Prop) : Prop :=
  ∀ (fuel : Nat) (cs : List Value) (x : DataW H × List MemPlace), DataW.trod enc P w base spare held fuel t cs = some x → Sized P t x.1 → ∃ a, R a ∧ CellsRv w (en a) cs

theorem cells_one1 {y : AV} {u : Value} (h : RV w nov mZ y u) (h1 : u.oneCell' = true) (hf : Fr y) : CellsRv w [y] [u] := by
  refine ⟨rfl, fun j z v hz hv => ?_, fun z hz => by simp at hz; subst hz; exact hf⟩
  cases j with
  | zero => simp at hz hv; subst hz hv; exact ⟨h, h1⟩
  | succ j => simp at hz
theorem opens_int {t : TypeId} {k : IntKind} (ht : P.underlying t = some (.int k)) : Opens enc P w base spare held t (fun z : Int => [.c (.int k z)]) (fun z => (Lit.int k z).wf = true) := by
  intro fuel cs x h _
  obtain ⟨z, rfl, _, wz⟩ := DataW.trod_int ht h
  exact ⟨z, wz, cells_one1 (.c _) rfl (.c _)⟩
theorem opens_slice {t e : TypeId} {α : Type} {en : α → List AV} {R : α → Prop} {sz by_ : Nat} (ht : P.underlying t = some (.slice e)) (hc : P.cellsOf e = sz) (hb : P.bytesOf e = by_) (hby : 0 < by_) (hsz : 0 < sz) (he : Opens enc P w base spare held e en R) :
    Opens enc P w base spare held t (fun l : List α => [.sl sz (l.map en)]) (fun l => l.length * by_ ≤ 140737488355328 ∧ ∀ x ∈ l, R x) := by
  intro fuel cs x h hs
  rcases open_slice ht h with ⟨rfl, _⟩ | ⟨a, len, cap, m, n, D, Pl, rfl, _, hl, hm, hmm, rfl, hi⟩
  · refine ⟨[], ⟨by simp, by simp⟩, cells_one1 ?_ rfl (.sl (fun e he => by cases he))⟩
    exact RV.sl (l := []) (b := 0) (off := 0) (f := fun _ _ => undef) (fun h => absurd rfl h) (Nat.zero_le _) (by simp) (fun k e h => by simp at h) (fun k j e x h => by simp at h) (fun k j e x h => by simp at h) (fun e he => by cases he)
  · have hlen := sized_len hs ht
    rw [hb] at hlen
    simp only [List.length_map, List.length_range] at hlen
    have hml : len ≤ m := by rw [hmm]; split <;> omega
    have hcell : ∀ i, i < len → ∃ z : α, R z ∧ ∃ cs', CellsRv w (en z) cs' ∧ cs'.length = sz ∧ ∀ j, j < sz → w.cell? (a.add (i * sz + j)) = cs'[j]? := by
      intro i hi'
      obtain ⟨cs', hcc, ht'⟩ := hi i (by omega)
      rw [hc] at hcc
      obtain ⟨z, hz, hcr⟩ := he n cs' _ ht' (sized_elem hs ht (List.mem_map.2 ⟨i, by simpa using hi', rfl⟩))
      obtain ⟨_, hcl', hat⟩ := World.cells?_some hcc
      exact ⟨z, hz, cs', hcr, hcl', fun j hj => by rw [← hat j hj, Go.Deep.add_add]⟩
    obtain ⟨l, hl', hat⟩ := list_of len _ hcell
    have hR : ∀ x ∈ l, R x := fun x hx => by
      obtain ⟨k, hk⟩ := List.getElem?_of_mem hx
      exact (hat k x hk).1
    have hfr : FrL (l.map en) := by
      intro e he
      obtain ⟨x, hx, rfl⟩ := List.mem_map.1 he
      obtain ⟨k, hk⟩ := List.getElem?_of_mem hx
      obtain ⟨_, cs', hcr, _⟩ := hat k x hk
      exact hcr.2.2
    refine ⟨l, ⟨by rw [hl']; exact hlen, hR⟩, cells_one1 ?_ rfl (.sl hfr)⟩
    have key : ∀ (k j : Nat) (e : List AV) (y : AV), (l.map en)[k]? = some e → e[j]? = some y → e.length = sz ∧ ∃ u, w.cell? ⟨a.block, a.off + (k * sz + j), none⟩ = some u ∧ u.oneCell' = true ∧ RV w nov mZ y u ∧ a = ⟨a.block, a.off, none⟩ ∧ a.block < w.heap.size := by
      intro k j e y hk hj
      rw [List.getElem?_map] at hk
      cases hx : l[k]? with
      | none => rw [hx] at hk; cases hk
      | some z =>
        rw [hx] at hk
        simp at hk
        subst hk
        obtain ⟨_, cs', ⟨c1, c2, _⟩, c4, c5⟩ := hat k z hx
        have hjl : j < sz := by rw [← c4, ← c1]; exact (List.getElem?_eq_some_iff.1 hj).1
        have hcj := c5 j hjl
        have hget : cs'[j]? = some (cs'[j]'(by omega)) := List.getElem?_eq_getElem _
        rw [hget] at hcj
        obtain ⟨r1, r2⟩ := c2 j y _ hj hget
        have h0 : 0 < len := by have := (List.getElem?_eq_some_iff.1 hx).1; omega
        obtain ⟨_, _, cs0, ⟨_, _, _⟩, d4, d5⟩ := hcell 0 h0
        have hz0 := d5 0 hsz
        rw [List.getElem?_eq_getElem (by omega)] at hz0
        obtain ⟨e1, e2⟩ := addr_of_cell ⟨_, by simpa using hz0⟩ hcj
        exact ⟨by rw [c1, c4], _, e2, r2, r1, e1, lt_of_cell (p := ⟨a.block, a.off + (k * sz + j), none⟩) e2⟩
    have hlen2 : (l.map en).length = len := by simp [hl']
    have := RV.sl (w := w) (vs := nov) (m := mZ) (sz := sz) (l := l.map en) (A := some a) (cap := cap) (b := a.block) (off := a.off) (f := fun k j => (w.cell? ⟨a.block, a.off + (k * sz + j), none⟩).getD undef)
      (fun hne => ?_) (by omega) (by rw [hlen2]; exact Nat.le_trans (Nat.le_mul_of_pos_right _ hby) hlen) (fun k e hk => ?_) (fun k j e y hk hj => ?_) (fun k j e y hk hj => ?_) hfr
    · rw [hlen2] at this
      exact this
    · have h0 : 0 < (l.map en).length := List.length_pos_iff.2 hne
      have hk := List.getElem?_eq_getElem h0
      obtain ⟨x0, hx0, hx0'⟩ : ∃ x0, l[0]? = some x0 ∧ (l.map en)[0] = en x0 := by
        have h1 : 0 < l.length := by simpa using h0
        exact ⟨l[0], List.getElem?_eq_getElem h1, by simp⟩
      obtain ⟨_, cs', ⟨c1, _, _⟩, c4, _⟩ := hat 0 x0 hx0
      have hel : 0 < ((l.map en)[0]).length := by rw [hx0', c1, c4]; exact hsz
      obtain ⟨_, _, _, _, _, q1, q2⟩ := key 0 0 _ _ hk (List.getElem?_eq_getElem hel)
      exact ⟨by rw [← q1], noZ _, q2⟩
    · rw [List.getElem?_map] at hk
      cases hx : l[k]? with
      | none => rw [hx] at hk; cases hk
      | some z =>
        rw [hx] at hk
        simp at hk
        subst hk
        obtain ⟨_, cs', ⟨c1, _, _⟩, c4, _⟩ := hat k z hx
        rw [c1, c4]
    · obtain ⟨_, u, q1, q2, _⟩ := key k j e y hk hj
      rw [q1]
      exact ⟨rfl, q2⟩
    · obtain ⟨_, u, q1, _, q3, _⟩ := key k j e y hk hj
      rw [q1]
      exact q3

/-- fields from one on -/
def OpensF (enc : TypeId × Value → H) (P : Program) (w : World) (base : Nat) (spare : Nat → Bool) (held : Bool) (fs : List Field) (off tot : Nat) {α : Type} (en : α → List AV) (R : α → Prop) : Prop :=
  ∀ (fuel : Nat) (cs : List Value) (xs : List (DataW H × List MemPlace)), cs.length = tot → xs.length = fs.length → (∀ (i : Nat) (f : Field), fs[i]? = some f → DataW.trod enc P w base spare held fuel f.type ((cs.drop f.offset).take (P.cellsOf f.type)) = xs[i]?) →
    (∀ (i : Nat) (f : Field) (x : DataW H × List MemPlace), fs[i]? = some f → xs[i]? = some x → Sized P f.type x.1) → ∃ a, R a ∧ CellsRv w (en a) (cs.drop off)
theorem cells_append {a b : List AV} {xs ys : List Value} (h1 : CellsRv w a xs) (h2 : CellsRv w b ys) : CellsRv w (a ++ b) (xs ++ ys) := by
  refine ⟨by rw [List.length_append, List.length_append, h1.1, h2.1], fun j y u hy hu => ?_, fun y hy => ?_⟩
  · rcases Nat.lt_or_ge j a.length with hlt | hge
    · rw [List.getElem?_append_left hlt] at hy
      rw [List.getElem?_append_left (by rw [← h1.1]; exact hlt)] at hu
      exact h1.2.1 j y u hy hu
    · rw [List.getElem?_append_right hge] at hy
      rw [List.getElem?_append_right (by rw [← h1.1]; exact hge)] at hu
      rw [h1.1] at hy
      exact h2.2.1 _ y u hy hu
  · rcases List.mem_append.1 hy with h | h
    · exact h1.2.2 y h
    · exact h2.2.2 y h
theorem opensF_last {f : Field} {off tot : Nat} {α : Type} {en : α → List AV} {R : α → Prop} (ho : f.offset = off) (htot : off + P.cellsOf f.type = tot) (h : Opens enc P w base spare held f.type en R) : OpensF enc P w base spare held [f] off tot en R := by
  intro fuel cs xs hcl hx ht hs
  obtain ⟨x, rfl⟩ := List.length_eq_one_iff.1 hx
  have h1 := ht 0 f rfl
  obtain ⟨a, ha, hc⟩ := h fuel _ x h1 (hs 0 f x rfl rfl)
  refine ⟨a, ha, ?_⟩
  rw [ho, List.take_of_length_le (by simp; omega)] at hc
  exact hc
theorem opensF_cons {f : Field} {fs : List Field} {off off' tot : Nat} {α β : Type} {en : α → List AV} {R : α → Prop} {en' : β → List AV} {R' : β → Prop} (ho : f.offset = off) (hoff : off + P.cellsOf f.type = off') (h : Opens enc P w base spare held f.type en R) (h' : OpensF enc P w base spare held fs off' tot en' R') :
    OpensF enc P w base spare held (f :: fs) off tot (fun p : α × β => en p.1 ++ en' p.2) (fun p => R p.1 ∧ R' p.2) := by
  intro fuel cs xs hcl hx ht hs
  cases xs with
  | nil => simp at hx
  | cons x xs =>
    obtain ⟨a, ha, hc⟩ := h fuel _ x (ht 0 f rfl) (hs 0 f x rfl rfl)
    obtain ⟨b, hb, hc'⟩ := h' fuel cs xs hcl (by simpa using hx) (fun i g hg => by simpa using ht (i + 1) g (by simpa using hg)) (fun i g y hg hy => hs (i + 1) g y (by simpa using hg) (by simpa using hy))
    refine ⟨(a, b), ⟨ha, hb⟩, ?_⟩
    rw [ho] at hc
    have : cs.drop off = (cs.drop off).take (P.cellsOf f.type) ++ cs.drop off' := by
      rw [← hoff, ← List.drop_drop, List.take_append_drop]
    rw [this]
    exact cells_append hc hc'
theorem opens_struct {t : TypeId} {fs : Array Field} {α : Type} {en : α → List AV} {R : α → Prop} (ht : P.underlying t = some (.struct fs)) (h : OpensF enc P w base spare held fs.toList 0 (P.cellsOf t) en R) : Opens enc P w base spare held t en R := by
  intro fuel cs x hx hs
  obtain ⟨xs, n, _, rfl, hcl, hxl, hf⟩ := DataW.trod_struct ht hx
  obtain ⟨a, ha, hc⟩ := h n cs xs hcl (by simpa using hxl) (fun i f hi => hf i f (by simpa using hi)) (fun i f y hi hy => sized_field hs ht (j := i) (by simpa using hi) (by simp [List.getElem?_map, hy]))
  exact ⟨a, ha, by simpa using hc⟩

/-- a struct that came in -/
theorem agg_rv {es : List AV} {us : Array Value} (h : CellsRv w es us.toList) : RV w nov mZ (.agg es) (.agg us) :=
  .agg (by rw [h.1]; simp) (fun j y u hy hu => (h.2.1 j y u hy (by simpa using hu)).1)
end
end Go.Proofs.YtohjegemooakpaaGreat.Am
/- From a walk to a law's row: the arguments read behind the call as before, the result is true. -/
namespace Go.Proofs.YtohjegemooakpaaGreat
open Go.RowKit Go.WideShapes Go.ChangeShapes Go.ChangeAt
section
variable {H : Type} {enc : TypeId × Value → H} {P : Program}
theorem post_of_below {f : Func} {s : ChangeSpec} {apart fresh handsOn again : Bool} {W W' : World} {args : Array Value} {v : Value} {ds gs : List (DataW H)} {before pa pv : List MemPlace}
    (hW : DataW.Whole enc P f.params.toList s.vars apart W args.toList ds gs before)
    (hres : ∀ (b : Nat) (sp : Nat → Bool) (hd : Bool), DataW.TrodAll enc P W' b sp hd f.resultTypes.toList (v.resultList f.resultTypes.size) (s.fn H (ds ++ gs)).results [])
    (hargs : ∀ sp : Nat → Bool, (∀ p ∈ before, sp p.block = true) → DataW.TrodAll enc P W' 0 sp true f.params.toList args.toList (s.fn H (ds ++ gs)).args pa)
    (hvars : ∀ sp : Nat → Bool, (∀ p ∈ before, sp p.block = true) → DataW.TrodVars enc P W' sp s.vars (s.fn H (ds ++ gs)).vars pv)
    (hps : before = pa ++ pv) (hb : Below W.heap.size W W')
    (hok : ∀ (j : Nat) (t : TypeId) (r : Value), f.resultTypes[j]? = some t → (v.resultList f.resultTypes.size)[j]? = some r → Value.okWide P W' .any 0 t r) :
    s.post enc P f apart fresh handsOn again W args v W' := by
  have hlt : ∀ p ∈ before, p.block < W.heap.size := fun p hp => hW.lt p hp
  have hold : ∀ p ∈ before, (fun b => decide (b < W.heap.size)) p.block = true := fun p hp => by simpa using hlt p hp
  refine ⟨ds, gs, before, [], pa, pv, hW, hres _ _ _, hargs _ hold, hvars _ hold, World.keptBut_mono (fun p hp => ⟨hp, ?_⟩) (hb.frame (· ∈ before)), fun _ => ?_⟩
  · rw [hps, List.mem_append] at hp
    exact Or.inr hp
  · obtain ⟨_, _, _, _, _, hz, hn⟩ := hW
    refine ⟨hok, _, _, ([] ++ pa) ++ pv, ⟨[] ++ pa, pv, trodAll_append (hargs _ (fun _ _ => rfl)) (hres _ _ _), hvars _ (fun _ _ => rfl), rfl, ?_, ?_⟩, ?_⟩
    · intro b off hp
      have hin : MemPlace.cell b off ∈ before := by rw [hps]; simpa using hp
      rw [hb.frozen (hlt _ hin)]
      exact hz b off hin
    · intro ha
      have := hn ha
      rw [hps] at this
      simpa using this
    · intro p hp _
      rw [hps]
      simpa using hp

theorem trodAll_keep (hl : laidOutB P = true) {W W' : World} (hb : Below W.heap.size W W') (sp : Nat → Bool) (ts : List TypeId) : ∀ (vs : List Value) (ds : List (DataW H)) (ps : List MemPlace), (∀ t ∈ ts, P.readableRec t = true ∧ t < P.types.size) →
    DataW.TrodAll enc P W 0 (fun _ => true) true ts vs ds ps → (∀ x ∈ ps, x.block < W.heap.size) → (∀ x ∈ ps, sp x.block = true) → DataW.TrodAll enc P W' 0 sp true ts vs ds ps := by
  induction ts with
  | nil =>
    intro vs ds ps _ h _ _
    obtain ⟨rfl, rfl, rfl⟩ := trodAll_nil h
    exact trodAll_mk0
  | cons t ts ih =>
    intro vs ds ps hts h hlt hsp
    obtain ⟨v0, vs0, d0, ds0, p0, q0, rfl, rfl, rfl, h0, r0⟩ := trodAll_cons h
    obtain ⟨hr, hrow⟩ := hts t (by simp)
    exact trodAll_cons_mk (WideElems.Trod_stays hl hr hrow h0 (fun x hx => hb.same (hlt x (by simp [hx]))) (fun x hx => hsp x (by simp [hx])))
      (ih _ _ _ (fun t ht => hts t (by simp [ht])) r0 (fun x hx => hlt x (by simp [hx])) (fun x hx => hsp x (by simp [hx])))

/-- A LAW: it returned true, nothing that was there has turned. -/
theorem law_post (hl : laidOutB P = true) {f : Func} {s : ChangeSpec} {T : TypeId} {W W' : World} {args : Array Value} {ds : List (DataW H)} {before : List MemPlace}
    (hvars : s.vars = []) (hrt : f.resultTypes = #[T]) (hT : P.underlying T = some .bool) (hts : f.params.toList.all (fun t => P.readableRec t && decide (t < P.types.size)) = true)
    (hW : DataW.Whole enc P f.params.toList s.vars false W args.toList ds [] before) (hA : DataW.TrodAll enc P W 0 (fun _ => true) true f.params.toList args.toList ds before)
    (e1 : (s.fn H (ds ++ [])).results = [.lit (.bool true)]) (e2 : (s.fn H (ds ++ [])).args = ds) (e3 : (s.fn H (ds ++ [])).vars = []) (hb : Below W.heap.size W W') :
    s.post enc P f false true false false W args (.bool true) W' := by
  have hlt : ∀ x ∈ before, x.block < W.heap.size := fun x hx => hW.lt x hx
  refine post_of_below (pa := before) (pv := []) hW ?_ ?_ ?_ (by simp) hb ?_
  · intro b sp hd
    rw [e1, hrt]
    exact trodAll_cons_mk (shut_bool hT true) trodAll_mk0
  · intro sp hsp
    rw [e2]
    exact trodAll_keep hl hb sp _ _ _ _ (fun t ht => by simpa using List.all_eq_true.1 hts t ht) hA hlt hsp
  · intro sp hsp
    rw [e3, hvars]
    rfl
  · exact ok_one hrt rfl (okWide_bool_mk hT true)
end
end Go.Proofs.YtohjegemooakpaaGreat
/- Readers of the arguments of the laws about tasks. -/
namespace Go.Proofs.YtohjegemooakpaaGreat.Am
open Go.RowKit Go.ChangeShapes Go.WideShapes Go.Deep Go.Joins
section
variable {H : Type} {enc : TypeId × Value → H} {w : World} {base : Nat} {spare : Nat → Bool} {held : Bool}
theorem opens_conv {P : Program} {t : TypeId} {α β : Type} {en : α → List AV} {en2 : β → List AV} {R : α → Prop} {R2 : β → Prop} (f : α → β) (h : Opens enc P w base spare held t en R) (he : ∀ a, en2 (f a) = en a) (hR : ∀ a, R a → R2 (f a)) : Opens enc P w base spare held t en2 R2 := by
  intro fuel cs x hx hs
  obtain ⟨a, ha, hc⟩ := h fuel cs x hx hs
  exact ⟨f a, hR a ha, by rw [he]; exact hc⟩
theorem opens_str2 {P : Program} {t : TypeId} (ht : P.underlying t = some .string) : Opens enc P w base spare held t (fun s : ByteArray => [.c (.string s)]) (fun s => s.size ≤ 140737488355328) := by
  intro fuel cs x h hsz
  obtain ⟨s, rfl, rfl, -⟩ := DataW.trod_string ht h
  refine ⟨s, ?_, cells_one1 (.c _) rfl (.c _)⟩
  have h1 : s.data.toList.length ≤ 140737488355328 := Nat.le_trans (hsz s.data.toList.length (List.mem_singleton.2 rfl)) (by decide)
  rw [Array.length_toList] at h1
  exact h1
abbrev I64F (p : Fact) : Prop := (Lit.int .i64 p.1).wf = true ∧ (Lit.int .i64 p.2).wf = true
abbrev FactsR (l : List Fact) : Prop := l.length * 16 ≤ 140737488355328 ∧ ∀ p ∈ l, I64F p
abbrev EffR (e : GEffect) : Prop := FactsR e.When
abbrev OpR (o : GOp) : Prop := o.Name.size ≤ 140737488355328 ∧ FactsR o.Pre ∧ o.Effs.length * 40 ≤ 140737488355328 ∧ ∀ e ∈ o.Effs, EffR e
abbrev IntsR (l : List Int) : Prop := l.length * 8 ≤ 140737488355328 ∧ ∀ z ∈ l, (Lit.int .i64 z).wf = true
abbrev TaskR (t : GTask) : Prop := IntsR t.Vars ∧ IntsR t.Init ∧ FactsR t.Goal ∧ t.Ops.length * 72 ≤ 140737488355328 ∧ ∀ o ∈ t.Ops, OpR o
set_option maxRecDepth 100000 in
theorem oFact : Opens enc Tryz.prog w base spare held 68 cF I64F :=
  opens_struct Tryz.underlying68 (opensF_cons (off' := 1) rfl (by kernel_rfl) (opens_int Tryz.underlying3) (opensF_last rfl (by kernel_rfl) (opens_int Tryz.underlying3)))
set_option maxRecDepth 100000 in
theorem oFacts : Opens enc Tryz.prog w base spare held 23 (fun l : List Fact => [.sl 2 (l.map cF)]) FactsR :=
  opens_slice Tryz.underlying23 (by kernel_rfl) (by kernel_rfl) (by decide) (by decide) oFact
set_option maxRecDepth 100000 in
theorem oInts : Opens enc Tryz.prog w base spare held 22 (fun l : List Int => [.sl 1 (l.map cI)]) IntsR :=
  opens_slice Tryz.underlying22 (by kernel_rfl) (by kernel_rfl) (by decide) (by decide) (opens_int Tryz.underlying3)
set_option maxRecDepth 100000 in
theorem oEff : Opens enc Tryz.prog w base spare held 70 cGEffect EffR :=
  opens_conv (fun p : List Fact × (Int × Int) => { When := p.1, Var := p.2.1, Val := p.2.2 : GEffect })
    (opens_struct Tryz.underlying70 (opensF_cons (off' := 1) (en := fun l : List Fact => [AV.sl 2 (l.map cF)]) (R := FactsR) (en' := fun z : Int × Int => [AV.c (.int .i64 z.1)] ++ [AV.c (.int .i64 z.2)]) (R' := fun z : Int × Int => (Lit.int .i64 z.1).wf = true ∧ (Lit.int .i64 z.2).wf = true) rfl (by kernel_rfl) oFacts
      (opensF_cons (off' := 2) (en := fun z : Int => [AV.c (.int .i64 z)]) (R := fun z : Int => (Lit.int .i64 z).wf = true) (en' := fun z : Int => [AV.c (.int .i64 z)]) (R' := fun z : Int => (Lit.int .i64 z).wf = true) rfl (by kernel_rfl) (opens_int Tryz.underlying3) (opensF_last rfl (by kernel_rfl) (opens_int Tryz.underlying3)))))
    (fun _ => rfl) (fun _ h => h.1)
set_option maxRecDepth 100000 in
theorem oOp : Opens enc Tryz.prog w base spare held 73 cGOp OpR :=
  opens_conv (fun p : ByteArray × (Int × (List Fact × List GEffect)) => { Name := p.1, Cost := p.2.1, Pre := p.2.2.1, Effs := p.2.2.2 : GOp })
    (opens_struct Tryz.underlying73 (opensF_cons (off' := 1) (en := fun s : ByteArray => [AV.c (.string s)]) (R := fun s => s.size ≤ 140737488355328) (en' := fun p : Int × (List Fact × List GEffect) => [AV.c (.int .i64 p.1)] ++ ([AV.sl 2 (p.2.1.map cF)] ++ [AV.sl 3 (p.2.2.map cGEffect)])) (R' := fun p : Int × (List Fact × List GEffect) => (Lit.int .i64 p.1).wf = true ∧ (FactsR p.2.1 ∧ (p.2.2.length * 40 ≤ 140737488355328 ∧ ∀ e ∈ p.2.2, EffR e))) rfl (by kernel_rfl) (opens_str2 Tryz.underlying9)
      (opensF_cons (off' := 2) (en := fun z : Int => [AV.c (.int .i64 z)]) (R := fun z : Int => (Lit.int .i64 z).wf = true) (en' := fun p : List Fact × List GEffect => [AV.sl 2 (p.1.map cF)] ++ [AV.sl 3 (p.2.map cGEffect)]) (R' := fun p : List Fact × List GEffect => FactsR p.1 ∧ (p.2.length * 40 ≤ 140737488355328 ∧ ∀ e ∈ p.2, EffR e)) rfl (by kernel_rfl) (opens_int Tryz.underlying3)
        (opensF_cons (off' := 3) (en := fun l : List Fact => [AV.sl 2 (l.map cF)]) (R := FactsR) (en' := fun l : List GEffect => [AV.sl 3 (l.map cGEffect)]) (R' := fun l : List GEffect => l.length * 40 ≤ 140737488355328 ∧ ∀ e ∈ l, EffR e) rfl (by kernel_rfl) oFacts
          (opensF_last rfl (by kernel_rfl) (opens_slice Tryz.underlying71 (by kernel_rfl) (by kernel_rfl) (by decide) (by decide) oEff))))))
    (fun _ => rfl) (fun _ h => ⟨h.1, h.2.2.1, h.2.2.2⟩)
set_option maxRecDepth 100000 in
theorem oTask : Opens enc Tryz.prog w base spare held 26 cGTask TaskR :=
  opens_conv (fun p : List Int × (List Int × (List Fact × List GOp)) => { Vars := p.1, Init := p.2.1, Goal := p.2.2.1, Ops := p.2.2.2 : GTask })
    (opens_struct Tryz.underlying26 (opensF_cons (off' := 1) (en := fun l : List Int => [AV.sl 1 (l.map cI)]) (R := IntsR) (en' := fun p : List Int × (List Fact × List GOp) => [AV.sl 1 (p.1.map cI)] ++ ([AV.sl 2 (p.2.1.map cF)] ++ [AV.sl 4 (p.2.2.map cGOp)])) (R' := fun p : List Int × (List Fact × List GOp) => IntsR p.1 ∧ (FactsR p.2.1 ∧ (p.2.2.length * 72 ≤ 140737488355328 ∧ ∀ o ∈ p.2.2, OpR o))) rfl (by kernel_rfl) oInts
      (opensF_cons (off' := 2) (en := fun l : List Int => [AV.sl 1 (l.map cI)]) (R := IntsR) (en' := fun p : List Fact × List GOp => [AV.sl 2 (p.1.map cF)] ++ [AV.sl 4 (p.2.map cGOp)]) (R' := fun p : List Fact × List GOp => FactsR p.1 ∧ (p.2.length * 72 ≤ 140737488355328 ∧ ∀ o ∈ p.2, OpR o)) rfl (by kernel_rfl) oInts
        (opensF_cons (off' := 3) (en := fun l : List Fact => [AV.sl 2 (l.map cF)]) (R := FactsR) (en' := fun l : List GOp => [AV.sl 4 (l.map cGOp)]) (R' := fun l : List GOp => l.length * 72 ≤ 140737488355328 ∧ ∀ o ∈ l, OpR o) rfl (by kernel_rfl) oFacts
          (opensF_last rfl (by kernel_rfl) (opens_slice Tryz.underlying24 (by kernel_rfl) (by kernel_rfl) (by decide) (by decide) oOp))))))
    (fun _ => rfl) (fun _ h => h)
/-- a struct argument -/
theorem arg_struct {P : Program} {t : TypeId} {fs : Array Field} {α : Type} {en : α → List AV} {R : α → Prop} {r : Reach} {b0 : Nat} {v : Value} {d : DataW H} {p : List MemPlace} (ht : P.underlying t = some (.struct fs)) (hv : Value.okWide P w r b0 t v) (ho : Opens enc P w base spare held t en R) (h : DataW.Trod enc P w base spare held t v d p) (hs : Sized P t d) :
    ∃ a, R a ∧ RV w nov mZ (.agg (en a)) v := by
  obtain ⟨cs, rfl, hsz⟩ := okWide_struct ht hv
  obtain ⟨fuel, hf⟩ := h
  obtain ⟨a, ha, hc⟩ := ho fuel _ _ hf hs
  exact ⟨a, ha, agg_rv hc⟩
end
theorem TaskR.sh {t : GTask} (h : TaskR t) : ShT t := by
  obtain ⟨⟨h1, -⟩, ⟨h2, -⟩, ⟨h3, -⟩, h4, h5⟩ := h
  refine ⟨?_, ?_, ?_, ?_, fun o ho => ?_⟩
  · show _ ≤ _; omega
  · show _ ≤ _; omega
  · show _ ≤ _; omega
  · show _ ≤ _; omega
  · obtain ⟨g1, ⟨g2, -⟩, g3, g4⟩ := h5 o ho
    refine ⟨by omega, ?_, ?_, fun e he => ?_⟩
    · show _ ≤ _; omega
    · show _ ≤ _; omega
    · have := (g4 e he).1
      show _ ≤ _; omega
theorem FactsR.sh {l : List Fact} (h : FactsR l) : Sh l := by have := h.1; show _ ≤ _; omega
theorem law_of {f : FuncId} {args : List AV} {w : World} {cargs : Array Value} (h : ACall cx f args (.c (.bool true))) (hs : cargs.size = args.length) (hr : ∀ (j : Nat) (x : AV) (v : Value), args[j]? = some x → cargs[j]? = some v → RV w nov (mO (fun _ => False)) x v) :
    Calls Tryz.prog f cargs w fun e w' => e = .returned (.bool true) ∧ Below w.heap.size w w' := by
  refine Calls.mono (h.2 w (fun _ => False) cargs trivial (Nat.zero_le _) (fun b hb => hb.elim) hs hr) ?_
  rintro e w' ⟨v, rfl, h1, h2, _⟩
  rw [rv_c h1]
  exact ⟨rfl, ⟨h2.os, h2.tape, h2.output, h2.size, fun b hb => h2.block b hb (fun h => h)⟩⟩
end Go.Proofs.YtohjegemooakpaaGreat.Am
/- stratagemlaw32.CertifyErrors returns true for every input. No condition beyond the row's own. -/
namespace Go.Proofs.YtohjegemooakpaaGreat.rowErrors
open Go.ChangeShapes Go.WideShapes Go.ChangeAt Go.RowKit Am
theorem laidOut : laidOutB Tryz.prog = true := by kernel_rfl
set_option maxRecDepth 100000 in
theorem contract (H : Type) (enc : TypeId × Value → H) (W : World) (base : Nat) (args : Array Value) (ds gs : List (DataW H)) (before : List MemPlace)
    (hval : ∀ (j : Nat) t v, Tryz.f10.params[j]? = some t → args[j]? = some v → Value.okWide Tryz.prog W .any base t v)
    (hW : DataW.Whole enc Tryz.prog Tryz.f10.params.toList Rows.certifyErrorsSpec.vars false W args.toList ds gs before)
    (hsz : (DataW.weightsEach Tryz.prog (Tryz.f10.params.toList ++ (OpenSpec.ofChange Rows.certifyErrorsSpec).bare.plain.varTypes Tryz.prog) (ds ++ gs)).all (· ≤ reachBytes) = true) :
    Calls Tryz.prog 10 args W fun e W' => ∃ v, e = .returned v ∧ Rows.certifyErrorsSpec.post enc Tryz.prog Tryz.f10 false true false false W args v W' := by
  have hW' := hW
  obtain ⟨p, q, hA0, hV, rfl, hfz, hnd⟩ := hW
  have hA : DataW.TrodAll enc Tryz.prog W 0 (fun _ => true) true Tryz.f10.params.toList args.toList ds p := hA0
  rw [Tryz.params10] at hA hval
  obtain ⟨v0, vs0, d0, ds0, p0, q0, hargs, rfl, rfl, h0, r0⟩ := trodAll_cons hA
  obtain ⟨v1, vs1, d1, ds1, p1, q1, rfl, rfl, rfl, h1, r1⟩ := trodAll_cons r0
  obtain ⟨rfl, rfl, rfl⟩ := trodAll_nil r1
  obtain rfl : args = #[v0, v1] := Array.ext' hargs
  obtain ⟨rfl, rfl⟩ := trodVars_none hV
  simp only [List.append_nil] at hW' hA0 hsz
  rw [Tryz.params10] at hsz
  obtain ⟨t, ht, k0⟩ := arg_struct Tryz.underlying26 (hval 0 26 v0 rfl rfl) oTask h0 (sized_arg hsz (j := 0) rfl rfl)
  obtain ⟨a, rfl, rfl, rfl, wa⟩ := open_int Tryz.underlying3 (hval 1 3 v1 rfl rfl) h1
  simp only [List.append_nil] at hW' hA0
  refine (law_of (A_l32_CertifyErrors 100 t a (errors_true t ht.sh a)) rfl (fun j x v hx hv => ?_)).mono fun e W' ⟨he, hb⟩ => ?_
  · match j, hx, hv with
    | 0, hx, hv => simp at hx hv; subst hx hv; exact k0
    | 1, hx, hv => simp at hx hv; subst hx hv; exact .c _
    | j + 2, hx, hv => simp at hx
  · subst he
    exact ⟨_, rfl, law_post laidOut rfl (by kernel_rfl) Tryz.underlying4 (by kernel_rfl) hW' hA0 rfl rfl rfl hb⟩
theorem own : ownKnob Tryz.prog.godebug = none := by kernel_rfl
theorem laid_met (os : Os) : laidMet Tryz.prog Rows.certifyErrorsRow.laid ((World.holding Tryz.prog os ⟨#[], #[], []⟩).forCall (fun _ _ => 0) ⟨#[], #[.agg #[.slice none 0 0, .slice none 0 0, .slice none 0 0, .slice none 0 0], .int .i64 0], []⟩).memory :=
  laidMet_of_run' 8 (by kernel_rfl) (by kernel_rfl)
theorem reads (os : Os) {H : Type} (enc : TypeId × Value → H) : ∃ places, DataW.whole enc Tryz.prog ((World.holding Tryz.prog os ⟨#[], #[], []⟩).forCall (fun _ _ => 0) ⟨#[], #[.agg #[.slice none 0 0, .slice none 0 0, .slice none 0 0, .slice none 0 0], .int .i64 0], []⟩).memory Tryz.f10.params.toList Rows.certifyErrorsSpec.vars false (#[.agg #[.slice none 0 0, .slice none 0 0, .slice none 0 0, .slice none 0 0], .int .i64 0] : Array Value).toList 8 = some ([.agg [.nil, .nil, .nil, .nil], .lit (.int .i64 0)], [], places) :=
  ⟨[], by kernel_rfl⟩

set_option maxRecDepth 100000 in
theorem lifted (os : Os) (started : os.Started) (H : Type) (enc : TypeId × Value → H) (F : Stop.Interp) :
    ReturnsInHanded {} Tryz.checked os 10 .any ((OpenSpec.ofChange Rows.certifyErrorsSpec).preRow enc Tryz.prog Tryz.f10 Rows.certifyErrorsRow.domain false Rows.certifyErrorsRow.laid) (((OpenSpec.ofChange Rows.certifyErrorsSpec).at F).post enc Tryz.prog Tryz.f10 false true false false) := by
  obtain ⟨places, hx⟩ := reads os enc
  refine returnsInHanded_of_row (C := Tryz.checked) (s := OpenSpec.ofChange Rows.certifyErrorsSpec) own started (by kernel_rfl) Tryz.func10
    (witness_row_at (enc := enc) (C := Tryz.checked) false (World.holding Tryz.prog os ⟨#[], #[], []⟩) #[.agg #[.slice none 0 0, .slice none 0 0, .slice none 0 0, .slice none 0 0], .int .i64 0] rfl (by kernel_rfl) (by kernel_rfl) (by kernel_rfl)
      (OpenSpec.preRow_of_cond 8 hx (by kernel_rfl) (fun k hk => by cases hk) (by kernel_rfl) (laid_met os))) ?_
  intro W base args ds gs before hval hW _ _ hsz _ _ _
  exact contract H enc W base args ds gs before hval hW hsz

/-- THE STATEMENT. -/
theorem said : Rows.CertifyErrorsSaid :=
  OpenClaim.holds_of_cond 10 Tryz.f10 rfl rfl rfl rfl rfl rfl rfl ⟨rfl, rfl, rfl, rfl, rfl⟩ rfl rfl rfl rfl rfl (by kernel_rfl) Tryz.func10 (by kernel_rfl)
    (of_decide_eq_true (by kernel_rfl)) (by unfold Func.isWrapper; first | (rw [if_pos (by decide +kernel)]; kernel_rfl) | (rw [if_neg (by decide +kernel)]; exact ⟨rfl, rfl⟩))
    (fun os started H enc _ F => by rw [OpenClaim.pre_eq_preRow]; exact lifted os started H enc F)
end Go.Proofs.YtohjegemooakpaaGreat.rowErrors
