/- Texts of the proof, part 4 of 5. -/
import Derived.Test.YtohjegemooakpaaGreatB3
import Derived.Test.YtohjegemooakpaaGreatB2
import Derived.KernelRfl
import Derived.Test.YtohjegemooakpaaGreatB1
import Derived.Deep.Slices
import Derived.Deep.Fields
import Derived.ChangeSame
import Derived.SizedLaws
import Derived.Lib.SmallJoins
/- Range loops of the models as recursions. -/
namespace Go.Proofs.YtohjegemooakpaaGreat.Am
def M_task_conditions_L1_B (_ : GOp) (_y65 : GEffect) (_ : Int) : ((List (List Fact))) → (((List (List Fact))) → Option (List (List Fact))) → Option (List (List Fact)) := fun v63 rc => ixv _y65 (fun y65 =>
       grd ((v63.length + 1) * 24 ≤ 140737488355328) (rc ((v63 ++ [y65.When]))))
def M_task_conditions_L1_E (_ : GOp) : ((List (List Fact))) → Option (List (List Fact)) := fun v63 => some v63
theorem M_task_conditions_L1_eq (y57 : GOp) (v63 : List (List Fact)) (hl : y57.Effs.length < 9223372036854775807) : M_task_conditions_L1 y57 (((y57.Effs.map cGEffect).length : Int).toNat + 1) 0 v63 = Rg (M_task_conditions_L1_B y57) (M_task_conditions_L1_E y57) y57.Effs 0 v63 := rg_e1 (L := fun k i v63 => M_task_conditions_L1 y57 k i v63) hl (fun _ _ _ => rfl) v63
def M_task_conditions_L2_B (_ : GTask) (_y57 : GOp) (_ : Int) : ((List (List Fact))) → (((List (List Fact))) → Option (List (List Fact))) → Option (List (List Fact)) := fun v44 rc => ob1 (ixv _y57 (fun y57 =>
        grd ((v44.length + 1) * 24 ≤ 140737488355328) (M_task_conditions_L1 y57 ((((y57.Effs.map cGEffect).length : Int)).toNat + 1) 0 (v44 ++ [y57.Pre]))) : Option (List (List Fact)))
       (fun v55 => rc (v55))
def M_task_conditions_L2_E (_ : GTask) : ((List (List Fact))) → Option (List (List Fact)) := fun v44 => grd (v44.length ≤ 140737488355328) (some v44)
theorem M_task_conditions_L2_eq (a0 : GTask) (v44 : List (List Fact)) (hl : a0.Ops.length < 9223372036854775807) : M_task_conditions_L2 a0 (((a0.Ops.map cGOp).length : Int).toNat + 1) 0 v44 = Rg (M_task_conditions_L2_B a0) (M_task_conditions_L2_E a0) a0.Ops 0 v44 := rg_e2 (L := fun k i v44 => M_task_conditions_L2 a0 k i v44) hl (fun k n p y hy h1 h2 => by first | (simp only [M_task_conditions_L2, M_task_conditions_L2_B, List.length_map, decide_lt h1, sel, ix_at hy, ixv, h2]; done) | (simp only [List.length_map] at h1 hy; (simp only [M_task_conditions_L2, M_task_conditions_L2_B, List.length_map, decide_lt h1, sel, ix_at hy, ixv, h2]; done))) (fun k p => by simp only [M_task_conditions_L2, M_task_conditions_L2_E, List.length_map, decide_ge, sel]) v44
def M_s_IndexFunc_Fact_L1_B (_ : List (List Fact)) (a1 : (List Fact) → Option Bool) (_y8 : List Fact) (v6 : Int) : Unit → (Unit → Option (Int)) → Option (Int) := fun _ rc => ixv _y8 (fun y8 =>
       ob1 (a1 y8) (fun z9 =>
        sel z9
         (some v6)
         (rc ())))
def M_s_IndexFunc_Fact_L1_E (_ : List (List Fact)) (_ : (List Fact) → Option Bool) : Unit → Option (Int) := fun _ => some (-1)
theorem M_s_IndexFunc_Fact_L1_eq (a0 : List (List Fact)) (a1 : (List Fact) → Option Bool)  (hl : a0.length < 9223372036854775807) : M_s_IndexFunc_Fact_L1 a0 a1 (((a0.map cL_cF).length : Int).toNat + 1) 0 = Rg (M_s_IndexFunc_Fact_L1_B a0 a1) (M_s_IndexFunc_Fact_L1_E a0 a1) a0 0 () := rg_e1 (L := fun k i _ => M_s_IndexFunc_Fact_L1 a0 a1 k i) hl (fun _ _ _ => rfl) ()
def M_task_large_L1_B (_ : GTask) (_y8 : GOp) (_ : Int) : Unit → (Unit → Option (Bool)) → Option (Bool) := fun _ rc => ixv _y8 (fun y8 =>
       sel (decide (((y8.Effs.map cGEffect).length : Int) > 64))
        (some true)
        (rc ()))
def M_task_large_L1_E (a0 : GTask) : Unit → Option (Bool) := fun _ => ob1 (M_task_conditions a0) (fun z9 =>
       ob1 (M_s_ContainsFunc_Fact z9 M_task_large_1) (fun z10 =>
        some z10))
theorem M_task_large_L1_eq (a0 : GTask)  (hl : a0.Ops.length < 9223372036854775807) : M_task_large_L1 a0 (((a0.Ops.map cGOp).length : Int).toNat + 1) 0 = Rg (M_task_large_L1_B a0) (M_task_large_L1_E a0) a0.Ops 0 () := rg_e1 (L := fun k i _ => M_task_large_L1 a0 k i) hl (fun _ _ _ => rfl) ()
def M_task_Proper_L1_B (a0 : List Int) (_ : List Int) (_y8 : Int) (v6 : Int) : Unit → (Unit → Option (Bool)) → Option (Bool) := fun _ rc => ixv _y8 (fun y8 =>
       sel (decide (y8 < 0))
        (some false)
        (ix a0 v6 (fun y9 =>
          sel (decide (y8 ≥ y9))
           (some false)
           (rc ()))))
def M_task_Proper_L1_E (_ : List Int) (_ : List Int) : Unit → Option (Bool) := fun _ => some true
theorem M_task_Proper_L1_eq (a0 : List Int) (a1 : List Int)  (hl : a1.length < 9223372036854775807) : M_task_Proper_L1 a0 a1 (((a1.map cI).length : Int).toNat + 1) 0 = Rg (M_task_Proper_L1_B a0 a1) (M_task_Proper_L1_E a0 a1) a1 0 () := rg_e1 (L := fun k i _ => M_task_Proper_L1 a0 a1 k i) hl (fun _ _ _ => rfl) ()
def M_task_Facts_L1_B (a0 : List Int) (_ : List Fact) (_y10 : Fact) (_ : Int) : ((Int)) → (((Int)) → Option (Bool)) → Option (Bool) := fun v7 rc => ixv _y10 (fun y10 =>
       sel (decide (y10.1 ≤ v7))
        (some false)
        (sel (decide (y10.1 ≥ ((a0.map cI).length : Int)))
          (some false)
          (sel (decide (y10.2 < 0))
            (some false)
            (ix a0 y10.1 (fun y11 =>
              sel (decide (y10.2 ≥ y11))
               (some false)
               (rc (y10.1)))))))
def M_task_Facts_L1_E (_ : List Int) (_ : List Fact) : ((Int)) → Option (Bool) := fun _ => some true
theorem M_task_Facts_L1_eq (a0 : List Int) (a1 : List Fact) (v7 : Int) (hl : a1.length < 9223372036854775807) : M_task_Facts_L1 a0 a1 (((a1.map cF).length : Int).toNat + 1) v7 0 = Rg (M_task_Facts_L1_B a0 a1) (M_task_Facts_L1_E a0 a1) a1 0 v7 := rg_e1 (L := fun k i v7 => M_task_Facts_L1 a0 a1 k v7 i) hl (fun _ _ _ => rfl) v7
def M_task_named_L1_B (a0 : ByteArray) (v2 : Int) : Unit → (Unit → Option (Bool)) → Option (Bool) := fun _ rc => sel (decide ((byt a0 v2) < 32))
       (grd (0 ≤ v2) (grd (v2 < (a0.size : Int)) (some false)))
       (grd (0 ≤ v2) (grd (v2 < (a0.size : Int)) (sel (decide ((byt a0 v2) > 126))
         (some false)
         (rc ()))))
def M_task_named_L1_E (a0 : ByteArray) : Unit → Option (Bool) := fun _ => some (decide ((a0.size : Int) ≤ 256))
theorem M_task_named_L1_eq (a0 : ByteArray)  {m : Nat} (hm : (a0.size : Int) = (m : Int)) (hl : m < 9223372036854775807) : M_task_named_L1 a0 (((a0.size : Int)).toNat + 1) 0 = Rn (M_task_named_L1_B a0) (M_task_named_L1_E a0) m 0 () := rn_e (L := fun k i _ => M_task_named_L1 a0 k i) hm hl (fun _ _ _ => rfl) ()
def M_task_Check_L1_B (_ : GTask) (_y15 : Int) (_ : Int) : Unit → (Unit → Option (Unit ⊕ Er)) → Option (Unit ⊕ Er) := fun _ rc => ixv _y15 (fun y15 =>
       sel (decide (y15 < 1))
        (some (.inr (Er.no 1)))
        (sel (decide (y15 > 64))
          (some (.inr (Er.no 1)))
          (rc ())))
def M_task_Check_L1_E (_ : GTask) : Unit → Option (Unit ⊕ Er) := fun _ => some (.inl ())
theorem M_task_Check_L1_eq (a0 : GTask)  (hl : a0.Vars.length < 9223372036854775807) : M_task_Check_L1 a0 (((a0.Vars.map cI).length : Int).toNat + 1) 0 = Rg (M_task_Check_L1_B a0) (M_task_Check_L1_E a0) a0.Vars 0 () := rg_e1 (L := fun k i _ => M_task_Check_L1 a0 k i) hl (fun _ _ _ => rfl) ()
def M_task_Check_L2_B (_ : GTask) (_y29 : GOp) (_ : Int) : Unit → (Unit → Option (Unit ⊕ Er)) → Option (Unit ⊕ Er) := fun _ rc => ixv _y29 (fun y29 =>
       sel (decide (y29.Cost < 0))
        (some (.inr (Er.no 1)))
        (sel (decide (y29.Cost > 1048576))
          (some (.inr (Er.no 1)))
          (rc ())))
def M_task_Check_L2_E (_ : GTask) : Unit → Option (Unit ⊕ Er) := fun _ => some (.inl ())
theorem M_task_Check_L2_eq (a0 : GTask)  (hl : a0.Ops.length < 9223372036854775807) : M_task_Check_L2 a0 (((a0.Ops.map cGOp).length : Int).toNat + 1) 0 = Rg (M_task_Check_L2_B a0) (M_task_Check_L2_E a0) a0.Ops 0 () := rg_e1 (L := fun k i _ => M_task_Check_L2 a0 k i) hl (fun _ _ _ => rfl) ()
def M_task_Check_L3_B (a0 : GTask) (_ : List (List Fact)) (_y51 : List Fact) (_ : Int) : Unit → (Unit → Option (Unit ⊕ Er)) → Option (Unit ⊕ Er) := fun _ rc => ixv _y51 (fun y51 =>
       ob1 (M_task_Facts a0.Vars y51) (fun z52 =>
        sel (!z52)
         (some (.inr (Er.no 2)))
         (rc ())))
def M_task_Check_L3_E (_ : GTask) (_ : List (List Fact)) : Unit → Option (Unit ⊕ Er) := fun _ => some (.inl ())
theorem M_task_Check_L3_eq (a0 : GTask) (z43 : List (List Fact))  (hl : z43.length < 9223372036854775807) : M_task_Check_L3 a0 z43 (((z43.map cL_cF).length : Int).toNat + 1) 0 = Rg (M_task_Check_L3_B a0 z43) (M_task_Check_L3_E a0 z43) z43 0 () := rg_e1 (L := fun k i _ => M_task_Check_L3 a0 z43 k i) hl (fun _ _ _ => rfl) ()
def M_task_Check_L4_B (a0 : GTask) (_ : GOp) (_y191 : GEffect) (_ : Int) : Unit → (Unit → Option (Unit ⊕ Er)) → Option (Unit ⊕ Er) := fun _ rc => ixv _y191 (fun y191 =>
       ob1 (M_task_Facts a0.Vars [(y191.Var, y191.Val)]) (fun z192 =>
        sel (!z192)
         (some (.inr (Er.no 2)))
         (rc ())))
def M_task_Check_L4_E (_ : GTask) (_ : GOp) : Unit → Option (Unit ⊕ Er) := fun _ => some (.inl ())
theorem M_task_Check_L4_eq (a0 : GTask) (y183 : GOp)  (hl : y183.Effs.length < 9223372036854775807) : M_task_Check_L4 a0 y183 (((y183.Effs.map cGEffect).length : Int).toNat + 1) 0 = Rg (M_task_Check_L4_B a0 y183) (M_task_Check_L4_E a0 y183) y183.Effs 0 () := rg_e1 (L := fun k i _ => M_task_Check_L4 a0 y183 k i) hl (fun _ _ _ => rfl) ()
def M_task_Check_L5_B (a0 : GTask) (_y183 : GOp) (_ : Int) : Unit → (Unit → Option (Unit ⊕ Er)) → Option (Unit ⊕ Er) := fun _ rc => ob1 (ixv _y183 (fun y183 =>
        M_task_Check_L4 a0 y183 ((((y183.Effs.map cGEffect).length : Int)).toNat + 1) 0) : Option (Unit ⊕ Er))
       (osum
       (fun _ => rc ())
       (fun r181 => some (.inr r181)))
def M_task_Check_L5_E (_ : GTask) : Unit → Option (Unit ⊕ Er) := fun _ => some (.inl ())
theorem M_task_Check_L5_eq (a0 : GTask)  (hl : a0.Ops.length < 9223372036854775807) : M_task_Check_L5 a0 (((a0.Ops.map cGOp).length : Int).toNat + 1) 0 = Rg (M_task_Check_L5_B a0) (M_task_Check_L5_E a0) a0.Ops 0 () := rg_e2 (L := fun k i _ => M_task_Check_L5 a0 k i) hl (fun k n p y hy h1 h2 => by first | (simp only [M_task_Check_L5, M_task_Check_L5_B, List.length_map, decide_lt h1, sel, ix_at hy, ixv, h2]; done) | (simp only [List.length_map] at h1 hy; (simp only [M_task_Check_L5, M_task_Check_L5_B, List.length_map, decide_lt h1, sel, ix_at hy, ixv, h2]; done))) (fun k p => by simp only [M_task_Check_L5, M_task_Check_L5_E, List.length_map, decide_ge, sel]) ()
def M_task_Check_L6_B (_ : GTask) (_y200 : GOp) (_ : Int) : Unit → (Unit → Option (Er)) → Option (Er) := fun _ rc => ixv _y200 (fun y200 =>
       ob1 (M_task_named y200.Name) (fun z201 =>
        sel (!z201)
         (some (Er.no 8))
         (rc ())))
def M_task_Check_L6_E (_ : GTask) : Unit → Option (Er) := fun _ => some Er.nil
theorem M_task_Check_L6_eq (a0 : GTask)  (hl : a0.Ops.length < 9223372036854775807) : M_task_Check_L6 a0 (((a0.Ops.map cGOp).length : Int).toNat + 1) 0 = Rg (M_task_Check_L6_B a0) (M_task_Check_L6_E a0) a0.Ops 0 () := rg_e1 (L := fun k i _ => M_task_Check_L6 a0 k i) hl (fun _ _ _ => rfl) ()
def M_p_valid_L1_B (a0 : List Fact) (_y7 : Fact) (v5 : Int) : Unit → (Unit → Option (Bool)) → Option (Bool) := fun _ rc => ixv _y7 (fun y7 =>
       sel (decide (y7.1 < 0))
        (some false)
        (sel (decide (y7.2 < 0))
          (some false)
          (sel (decide (v5 > 0))
            (ix a0 (IntKind.i64.wrap (v5 - 1)) (fun y8 =>
              sel (decide (y8.1 ≥ y7.1))
               (some false)
               (rc ())))
            (rc ()))))
def M_p_valid_L1_E (_ : List Fact) : Unit → Option (Bool) := fun _ => some true
theorem M_p_valid_L1_eq (a0 : List Fact)  (hl : a0.length < 9223372036854775807) : M_p_valid_L1 a0 (((a0.map cF).length : Int).toNat + 1) 0 = Rg (M_p_valid_L1_B a0) (M_p_valid_L1_E a0) a0 0 () := rg_e1 (L := fun k i _ => M_p_valid_L1 a0 k i) hl (fun _ _ _ => rfl) ()
def M_p_find_L1_B (_ : List Fact) (a1 : Int) (_y6 : Fact) (_ : Int) : Unit → (Unit → Option (Int)) → Option (Int) := fun _ rc => ixv _y6 (fun y6 =>
       sel (y6.1 == a1)
        (some y6.2)
        (rc ()))
def M_p_find_L1_E (_ : List Fact) (_ : Int) : Unit → Option (Int) := fun _ => some (-1)
theorem M_p_find_L1_eq (a0 : List Fact) (a1 : Int)  (hl : a0.length < 9223372036854775807) : M_p_find_L1 a0 a1 (((a0.map cF).length : Int).toNat + 1) 0 = Rg (M_p_find_L1_B a0 a1) (M_p_find_L1_E a0 a1) a0 0 () := rg_e1 (L := fun k i _ => M_p_find_L1 a0 a1 k i) hl (fun _ _ _ => rfl) ()
def M_p_contains_L1_B (a0 : List Fact) (_ : List Fact) (_y8 : Fact) (_ : Int) : Unit → (Unit → Option (Bool)) → Option (Bool) := fun _ rc => ixv _y8 (fun y8 =>
       ob1 (M_p_find a0 y8.1) (fun z9 =>
        sel (z9 != y8.2)
         (some false)
         (rc ())))
def M_p_contains_L1_E (_ : List Fact) (_ : List Fact) : Unit → Option (Bool) := fun _ => some true
theorem M_p_contains_L1_eq (a0 : List Fact) (a1 : List Fact)  (hl : a1.length < 9223372036854775807) : M_p_contains_L1 a0 a1 (((a1.map cF).length : Int).toNat + 1) 0 = Rg (M_p_contains_L1_B a0 a1) (M_p_contains_L1_E a0 a1) a1 0 () := rg_e1 (L := fun k i _ => M_p_contains_L1 a0 a1 k i) hl (fun _ _ _ => rfl) ()
def M_p_Minimal_L1_B (_ : List (List Fact)) (v115 : Int) (y149 : List Fact) (_y174 : List Fact) (v172 : Int) : Unit → (Unit → Option (Bool)) → Option (Bool) := fun _ rc => ixv _y174 (fun y174 =>
       sel (v115 != v172)
        (ob1 (M_p_valid y174) (fun z175 =>
          sel z175
           (ob1 (M_p_contains y149 y174) (fun z176 =>
             sel z176
              (sel (decide (((y174.map cF).length : Int) < ((y149.map cF).length : Int)))
                (some false)
                (sel (decide (v172 < v115))
                  (some false)
                  (rc ())))
              (rc ())))
           (rc ())))
        (rc ()))
def M_p_Minimal_L1_E (_ : List (List Fact)) (_ : Int) (_ : List Fact) : Unit → Option (Bool) := fun _ => some true
theorem M_p_Minimal_L1_eq (a0 : List (List Fact)) (v115 : Int) (y149 : List Fact)  (hl : a0.length < 9223372036854775807) : M_p_Minimal_L1 a0 v115 y149 (((a0.map cL_cF).length : Int).toNat + 1) 0 = Rg (M_p_Minimal_L1_B a0 v115 y149) (M_p_Minimal_L1_E a0 v115 y149) a0 0 () := rg_e1 (L := fun k i _ => M_p_Minimal_L1 a0 v115 y149 k i) hl (fun _ _ _ => rfl) ()
def M_p_Minimal_L2_B (a0 : List (List Fact)) (_y149 : List Fact) (v115 : Int) : ((List (List Fact))) → (((List (List Fact))) → Option (List (List Fact))) → Option (List (List Fact)) := fun v116 rc => ob1 (ixv _y149 (fun y149 =>
        ob1 (M_p_valid y149) (fun z150 =>
         sel (!z150)
          (some v116)
          (ob1 (M_p_Minimal_L1 a0 v115 y149 ((((a0.map cL_cF).length : Int)).toNat + 1) 0 : Option (Bool))
            (fun v163 => sel v163
               (ob1 (M_cloneF y149) (fun z177 =>
                 grd ((v116.length + 1) * 24 ≤ 140737488355328) (grd (z177.length ≤ 140737488355328) (some (v116 ++ [z177])))))
               (some v116))))) : Option (List (List Fact)))
       (fun v147 => rc (v147))
def M_p_Minimal_L2_E (_ : List (List Fact)) : ((List (List Fact))) → Option (List (List Fact)) := fun v116 => some v116
def M_b_State_L1_B (a0 : List Int) (a1 : List Int) (_y10 : Int) (v8 : Int) : Unit → (Unit → Option (Bool)) → Option (Bool) := fun _ rc => ixv _y10 (fun y10 =>
       sel (decide (y10 < 0))
        (some false)
        (ix a1 v8 (fun y11 =>
          ix a0 v8 (fun y12 =>
           sel (decide (y11 ≥ y12))
            (some false)
            (rc ())))))
def M_b_State_L1_E (_ : List Int) (_ : List Int) : Unit → Option (Bool) := fun _ => some true
theorem M_b_State_L1_eq (a0 : List Int) (a1 : List Int)  (hl : a1.length < 9223372036854775807) : M_b_State_L1 a0 a1 (((a1.map cI).length : Int).toNat + 1) 0 = Rg (M_b_State_L1_B a0 a1) (M_b_State_L1_E a0 a1) a1 0 () := rg_e1 (L := fun k i _ => M_b_State_L1 a0 a1 k i) hl (fun _ _ _ => rfl) ()
def M_b_Proper_L1_B (a0 : List Int) (a1 : List Fact) (_y9 : Fact) (v7 : Int) : Unit → (Unit → Option (Bool)) → Option (Bool) := fun _ rc => ixv _y9 (fun y9 =>
       sel (decide (y9.1 < 0))
        (some false)
        (sel (decide (y9.1 ≥ ((a0.map cI).length : Int)))
          (some false)
          (sel (decide (y9.2 < 0))
            (some false)
            (ix a0 y9.1 (fun y10 =>
              sel (decide (y9.2 ≥ y10))
               (some false)
               (sel (decide (v7 > 0))
                 (ix a1 (IntKind.i64.wrap (v7 - 1)) (fun y11 =>
                   sel (decide (y11.1 ≥ y9.1))
                    (some false)
                    (rc ())))
                 (rc ())))))))
def M_b_Proper_L1_E (_ : List Int) (_ : List Fact) : Unit → Option (Bool) := fun _ => some true
theorem M_b_Proper_L1_eq (a0 : List Int) (a1 : List Fact)  (hl : a1.length < 9223372036854775807) : M_b_Proper_L1 a0 a1 (((a1.map cF).length : Int).toNat + 1) 0 = Rg (M_b_Proper_L1_B a0 a1) (M_b_Proper_L1_E a0 a1) a1 0 () := rg_e1 (L := fun k i _ => M_b_Proper_L1 a0 a1 k i) hl (fun _ _ _ => rfl) ()
def M_b_Many_L1_B (_ : List Int) (a1 : Int) (_y8 : Int) (_ : Int) : ((Int)) → (((Int)) → Option (Int)) → Option (Int) := fun v5 rc => ixv _y8 (fun y8 =>
       sel (decide ((IntKind.i64.wrap (v5 * (min (max y8 0) (IntKind.i64.wrap (a1 + 1))))) > a1))
        (some (IntKind.i64.wrap (a1 + 1)))
        (rc ((IntKind.i64.wrap (v5 * (min (max y8 0) (IntKind.i64.wrap (a1 + 1))))))))
def M_b_Many_L1_E (_ : List Int) (_ : Int) : ((Int)) → Option (Int) := fun v5 => some v5
theorem M_b_Many_L1_eq (a0 : List Int) (a1 : Int) (v5 : Int) (hl : a0.length < 9223372036854775807) : M_b_Many_L1 a0 a1 (((a0.map cI).length : Int).toNat + 1) v5 0 = Rg (M_b_Many_L1_B a0 a1) (M_b_Many_L1_E a0 a1) a0 0 v5 := rg_e1 (L := fun k i v5 => M_b_Many_L1 a0 a1 k v5 i) hl (fun _ _ _ => rfl) v5
def M_b_States_L1_B (_ : Int) (y294 : List Int) (v297 : Int) : ((List (List Int))) → (((List (List Int))) → Option (List (List Int))) → Option (List (List Int)) := fun v298 rc => grd ((0 + y294.length) * 8 ≤ 140737488355328) (grd ((y294.length + 1) * 8 ≤ 140737488355328) (grd ((v298.length + 1) * 24 ≤ 140737488355328) (grd (y294.length + 1 ≤ 140737488355328) (rc ((v298 ++ [(y294 ++ [v297])]))))))
def M_b_States_L1_E (_ : Int) (_ : List Int) : ((List (List Int))) → Option (List (List Int)) := fun v298 => some v298
theorem M_b_States_L1_eq (y252 : Int) (y294 : List Int) (v298 : List (List Int)) {m : Nat} (hm : y252 = (m : Int)) (hl : m < 9223372036854775807) : M_b_States_L1 y252 y294 ((y252).toNat + 1) 0 v298 = Rn (M_b_States_L1_B y252 y294) (M_b_States_L1_E y252 y294) m 0 v298 := rn_e (L := fun k i v298 => M_b_States_L1 y252 y294 k i v298) hm hl (fun _ _ _ => rfl) v298
def M_b_States_L2_B (_ : List (List Int)) (y252 : Int) (_y294 : List Int) (_ : Int) : ((List (List Int))) → (((List (List Int))) → Option (List (List Int))) → Option (List (List Int)) := fun v284 rc => ob1 (ixv _y294 (fun y294 =>
        M_b_States_L1 y252 y294 ((y252).toNat + 1) 0 v284) : Option (List (List Int)))
       (fun v292 => rc (v292))
def M_b_States_L2_E (_ : List (List Int)) (_ : Int) : ((List (List Int))) → Option (List (List Int)) := fun v284 => some v284
theorem M_b_States_L2_eq (v199 : List (List Int)) (y252 : Int) (v284 : List (List Int)) (hl : v199.length < 9223372036854775807) : M_b_States_L2 v199 y252 (((v199.map cL_cI).length : Int).toNat + 1) 0 v284 = Rg (M_b_States_L2_B v199 y252) (M_b_States_L2_E v199 y252) v199 0 v284 := rg_e2 (L := fun k i v284 => M_b_States_L2 v199 y252 k i v284) hl (fun k n p y hy h1 h2 => by first | (simp only [M_b_States_L2, M_b_States_L2_B, List.length_map, decide_lt h1, sel, ix_at hy, ixv, h2]; done) | (simp only [List.length_map] at h1 hy; (simp only [M_b_States_L2, M_b_States_L2_B, List.length_map, decide_lt h1, sel, ix_at hy, ixv, h2]; done))) (fun k p => by simp only [M_b_States_L2, M_b_States_L2_E, List.length_map, decide_ge, sel]) v284
def M_b_States_L3_B (_ : List Int) (_y252 : Int) (_ : Int) : ((List (List Int))) → (((List (List Int))) → Option (List (List Int))) → Option (List (List Int)) := fun v199 rc => ob1 (ixv _y252 (fun y252 =>
        M_b_States_L2 v199 y252 ((((v199.map cL_cI).length : Int)).toNat + 1) 0 []) : Option (List (List Int)))
       (fun v250 => grd (v250.length ≤ 140737488355328) (rc (v250)))
def M_b_States_L3_E (_ : List Int) : ((List (List Int))) → Option (List (List Int)) := fun v199 => some v199
theorem M_b_States_L3_eq (a0 : List Int) (v199 : List (List Int)) (hl : a0.length < 9223372036854775807) : M_b_States_L3 a0 (((a0.map cI).length : Int).toNat + 1) v199 0 = Rg (M_b_States_L3_B a0) (M_b_States_L3_E a0) a0 0 v199 := rg_e2 (L := fun k i v199 => M_b_States_L3 a0 k v199 i) hl (fun k n p y hy h1 h2 => by first | (simp only [M_b_States_L3, M_b_States_L3_B, List.length_map, decide_lt h1, sel, ix_at hy, ixv, h2]; done) | (simp only [List.length_map] at h1 hy; (simp only [M_b_States_L3, M_b_States_L3_B, List.length_map, decide_lt h1, sel, ix_at hy, ixv, h2]; done))) (fun k p => by simp only [M_b_States_L3, M_b_States_L3_E, List.length_map, decide_ge, sel]) v199
end Go.Proofs.YtohjegemooakpaaGreat.Am
/- Plain laws of tasks: facts, states, operators; what Check and Good answer. -/
namespace Go.Proofs.YtohjegemooakpaaGreat.Am
open Go.RowKit
section
variable {α β : Type}
theorem ix_getD {l : List α} {i : Int} {d : α} {k : α → Option β} (h0 : 0 ≤ i) (h1 : i < l.length) : ix l i k = k (l.getD i.toNat d) := by
  obtain ⟨n, rfl⟩ : ∃ n : Nat, i = n := ⟨i.toNat, by omega⟩
  have hn : n < l.length := by omega
  rw [ix_at (List.getElem?_eq_getElem hn), Int.toNat_natCast]
  simp [hn]
end
/-- short lists -/
abbrev Sh {α : Type} (l : List α) : Prop := l.length ≤ 140737488355328
theorem Sh.lt {α : Type} {l : List α} (h : Sh l) : l.length < 9223372036854775807 := Nat.lt_of_le_of_lt h (by decide)
/-- proper facts -/
def propF (vars : List Int) : Int → List Fact → Bool
  | _, [] => true
  | last, y :: r => decide (last < y.1 ∧ y.1 < vars.length ∧ 0 ≤ y.2 ∧ y.2 < vars.getD y.1.toNat 0) && propF vars y.1 r
theorem facts_loop (vars : List Int) (l : List Fact) : ∀ (r : List Fact) (i last : Int), -1 ≤ last → Rg (M_task_Facts_L1_B vars l) (M_task_Facts_L1_E vars l) r i last = some (propF vars last r)
  | [], _, _, _ => rfl
  | y :: r, i, last, hl => by
    rw [Rg, propF]
    simp only [M_task_Facts_L1_B, ixv, sel_dec, List.length_map]
    by_cases h1 : y.1 ≤ last
    · rw [if_pos h1, decide_eq_false (by omega)]; rfl
    · rw [if_neg h1]
      by_cases h2 : y.1 ≥ vars.length
      · rw [if_pos h2, decide_eq_false (by omega)]; rfl
      · rw [if_neg h2]
        by_cases h3 : y.2 < 0
        · rw [if_pos h3, decide_eq_false (by omega)]; rfl
        · rw [if_neg h3, ix_getD (d := 0) (by omega) (by omega)]
          by_cases h4 : y.2 ≥ vars.getD y.1.toNat 0
          · rw [if_pos h4, decide_eq_false (by omega)]; rfl
          · rw [if_neg h4, decide_eq_true (by omega), facts_loop vars l r (i + 1) y.1 (by omega)]; rfl
theorem facts_eq (vars : List Int) (l : List Fact) (hl : Sh l) : M_task_Facts vars l = some (propF vars (-1) l) := by
  rw [M_task_Facts, M_task_Facts_L1_eq _ _ _ hl.lt]
  exact facts_loop vars l l 0 (-1) (by omega)
/-- the last variable of the facts ahead -/
theorem proper_loop (vars : List Int) (l : List Fact) (hs : Sh l) : ∀ (r : List Fact) (n : Nat) (last : Int), l.drop n = r → n ≤ l.length → -1 ≤ last → (n = 0 → last = -1) → (∀ m, n = m + 1 → ∃ x, l[m]? = some x ∧ x.1 = last) → Rg (M_b_Proper_L1_B vars l) (M_b_Proper_L1_E vars l) r n () = some (propF vars last r)
  | [], _, _, _, _, _, _, _ => rfl
  | y :: r, n, last, hd, hn, hl, h0, hp => by
    rw [Rg, propF]
    have hlt : n < l.length := by
      rcases Nat.lt_or_ge n l.length with h | h
      · exact h
      · rw [List.drop_eq_nil_of_le h] at hd; cases hd
    have hy : l[n]? = some y := by
      have := congrArg (·[0]?) hd
      simpa [List.getElem?_drop] using this
    have hd' : l.drop (n + 1) = r := by
      have := congrArg List.tail hd
      simpa using this
    have hrec := proper_loop vars l hs r (n + 1) y.1 hd' hlt
    have hih : 0 ≤ y.1 → Rg (M_b_Proper_L1_B vars l) (M_b_Proper_L1_E vars l) r ((n : Int) + 1) () = some (propF vars y.1 r) := fun h => hrec (by omega) (by omega) (fun m hm => ⟨y, by rw [show m = n by omega]; exact hy, rfl⟩)
    simp only [M_b_Proper_L1_B, ixv, sel_dec, List.length_map]
    by_cases h1 : y.1 < 0
    · rw [if_pos h1, decide_eq_false (by omega)]; rfl
    · rw [if_neg h1]
      by_cases h2 : y.1 ≥ vars.length
      · rw [if_pos h2, decide_eq_false (by omega)]; rfl
      · rw [if_neg h2]
        by_cases h3 : y.2 < 0
        · rw [if_pos h3, decide_eq_false (by omega)]; rfl
        · rw [if_neg h3, ix_getD (d := 0) (by omega) (by omega)]
          by_cases h4 : y.2 ≥ vars.getD y.1.toNat 0
          · rw [if_pos h4, decide_eq_false (by omega)]; rfl
          · rw [if_neg h4]
            cases n with
            | zero =>
              have := h0 rfl
              rw [if_neg (by omega), decide_eq_true (by omega)]
              exact hih (by omega)
            | succ m =>
              obtain ⟨x, hx, hxl⟩ := hp m rfl
              rw [if_pos (by omega), w64 (by omega) (by have := hs; unfold Sh at this; omega), show (((m + 1 : Nat) : Int) - 1) = (m : Int) by omega, ix_at hx]
              by_cases h5 : x.1 ≥ y.1
              · rw [if_pos h5, decide_eq_false (by omega)]; rfl
              · rw [if_neg h5, decide_eq_true (by omega)]
                exact hih (by omega)
theorem proper_eq (vars : List Int) (l : List Fact) (hl : Sh l) : M_b_Proper vars l = some (propF vars (-1) l) := by
  rw [M_b_Proper, M_b_Proper_L1_eq _ _ hl.lt]
  exact proper_loop vars l hl l 0 (-1) rfl (Nat.zero_le _) (by omega) (fun _ => rfl) (fun m hm => by omega)
/-- proper states -/
def stateF : List Int → List Int → Bool
  | [], [] => true
  | n :: r, x :: s => decide (0 ≤ x ∧ x < n) && stateF r s
  | _, _ => false
theorem stateF_len : ∀ {v s : List Int}, v.length ≠ s.length → stateF v s = false
  | [], [], h => absurd rfl h
  | [], _ :: _, _ => rfl
  | _ :: _, [], _ => rfl
  | n :: r, x :: s, h => by rw [stateF, stateF_len (by simpa using h), Bool.and_false]
theorem drop_cons {α : Type} {l r : List α} {n : Nat} {y : α} (h : l.drop n = y :: r) : l[n]? = some y ∧ l.drop (n + 1) = r ∧ n < l.length := by
  have hlt : n < l.length := by
    rcases Nat.lt_or_ge n l.length with h' | h'
    · exact h'
    · rw [List.drop_eq_nil_of_le h'] at h; cases h
  refine ⟨?_, ?_, hlt⟩
  · have := congrArg (·[0]?) h
    simpa [List.getElem?_drop] using this
  · have := congrArg List.tail h
    simpa using this
theorem tproper_loop (vars l : List Int) : ∀ (r s : List Int) (n : Nat), l.drop n = r → vars.drop n = s → r.length = s.length → Rg (M_task_Proper_L1_B vars l) (M_task_Proper_L1_E vars l) r n () = some (stateF s r)
  | [], [], _, _, _, _ => rfl
  | [], _ :: _, _, _, _, h => by simp at h
  | _ :: _, [], _, _, _, h => by simp at h
  | y :: r, v :: s, n, h1, h2, h3 => by
    obtain ⟨a1, a2, _⟩ := drop_cons h1
    obtain ⟨b1, b2, _⟩ := drop_cons h2
    have ih := tproper_loop vars l r s (n + 1) a2 b2 (by simpa using h3)
    rw [Rg, stateF]
    simp only [M_task_Proper_L1_B, ixv, sel_dec, ix_at b1]
    by_cases c1 : y < 0
    · rw [if_pos c1, decide_eq_false (by omega)]; rfl
    · rw [if_neg c1]
      by_cases c2 : y ≥ v
      · rw [if_pos c2, decide_eq_false (by omega)]; rfl
      · rw [if_neg c2, decide_eq_true (by omega)]
        exact ih
theorem state_loop (vars l : List Int) : ∀ (r s : List Int) (n : Nat), l.drop n = r → vars.drop n = s → r.length = s.length → Rg (M_b_State_L1_B vars l) (M_b_State_L1_E vars l) r n () = some (stateF s r)
  | [], [], _, _, _, _ => rfl
  | [], _ :: _, _, _, _, h => by simp at h
  | _ :: _, [], _, _, _, h => by simp at h
  | y :: r, v :: s, n, h1, h2, h3 => by
    obtain ⟨a1, a2, _⟩ := drop_cons h1
    obtain ⟨b1, b2, _⟩ := drop_cons h2
    have ih := state_loop vars l r s (n + 1) a2 b2 (by simpa using h3)
    rw [Rg, stateF]
    simp only [M_b_State_L1_B, ixv, sel_dec, ix_at b1, ix_at a1]
    by_cases c1 : y < 0
    · rw [if_pos c1, decide_eq_false (by omega)]; rfl
    · rw [if_neg c1]
      by_cases c2 : y ≥ v
      · rw [if_pos c2, decide_eq_false (by omega)]; rfl
      · rw [if_neg c2, decide_eq_true (by omega)]
        exact ih
theorem bne_len (a b : Nat) : ((a : Int) != (b : Int)) = decide (a ≠ b) := by
  by_cases h : a = b
  · subst h; simp
  · have : ¬ ((a : Int) = (b : Int)) := by omega
    simp [h, this, bne]
theorem tproper_eq (vars l : List Int) (hl : Sh l) : M_task_Proper vars l = some (stateF vars l) := by
  rw [M_task_Proper, M_task_Proper_L1_eq _ _ hl.lt, List.length_map, List.length_map, bne_len, sel_dec]
  split
  · rename_i h; rw [stateF_len (fun e => h e.symm)]
  · rename_i h; exact tproper_loop vars l l vars 0 rfl rfl (by omega)
theorem state_eq (vars l : List Int) (hl : Sh l) : M_b_State vars l = some (stateF vars l) := by
  rw [M_b_State, M_b_State_L1_eq _ _ hl.lt, List.length_map, List.length_map, bne_len, sel_dec]
  split
  · rename_i h; rw [stateF_len (fun e => h e.symm)]
  · rename_i h; exact state_loop vars l l vars 0 rfl rfl (by omega)
/-- a loop that looks at each element -/
theorem rg_all {α γ : Type} {B : α → Int → Unit → (Unit → Option γ) → Option γ} {E : Unit → Option γ} {p : α → Bool} {c : Option γ} : ∀ {l : List α} {i : Int}, (∀ y ∈ l, ∀ i rc, B y i () rc = if p y = true then rc () else c) → Rg B E l i () = if l.all p = true then E () else c
  | [], _, _ => rfl
  | y :: r, i, h => by
    rw [Rg, h y (by simp), List.all_cons]
    cases hp : p y
    · simp
    · simp only [Bool.true_and, if_true]
      exact rg_all (fun z hz => h z (by simp [hz]))
theorem rn_all {γ : Type} {B : Int → Unit → (Unit → Option γ) → Option γ} {E : Unit → Option γ} {p : Nat → Bool} {c : Option γ} : ∀ {m n : Nat}, (∀ k, n ≤ k → k < n + m → ∀ rc, B k () rc = if p k = true then rc () else c) → Rn B E m n () = if (List.range' n m).all p = true then E () else c
  | 0, _, _ => rfl
  | m + 1, n, h => by
    rw [Rn, h n (Nat.le_refl _) (by omega), List.range'_succ, List.all_cons]
    cases hp : p n
    · simp
    · simp only [Bool.true_and, if_true]
      have := rn_all (m := m) (n := n + 1) (E := E) (fun k h1 h2 => h k (by omega) (by omega))
      exact this
def charF (c : UInt8) : Bool := decide (32 ≤ c.toNat ∧ c.toNat ≤ 126)
theorem byt_at (s : ByteArray) (k : Nat) (h : k < s.size) : ∃ c, (bl s)[k]? = some c ∧ byt s (k : Int) = (c.toNat : Int) := by
  have h' : k < (bl s).length := by rw [bl_len]; exact h
  exact ⟨(bl s)[k], List.getElem?_eq_getElem h', byt_bl s k h⟩
theorem range_bytes (s : ByteArray) (p : UInt8 → Bool) : (List.range' 0 s.size).all (fun k => match (bl s)[k]? with | some c => p c | none => false) = (bl s).all p := by
  rw [Bool.eq_iff_iff, List.all_eq_true, List.all_eq_true]
  constructor
  · intro h c hc
    obtain ⟨k, hk⟩ := List.getElem?_of_mem hc
    have hlt : k < s.size := by rw [← bl_len]; exact (List.getElem?_eq_some_iff.1 hk).1
    have := h k (by simp; exact hlt)
    rw [hk] at this
    exact this
  · intro h k hk
    have hlt : k < (bl s).length := by rw [bl_len]; simpa using hk
    rw [List.getElem?_eq_getElem hlt]
    exact h _ (List.getElem_mem hlt)
theorem named_eq (s : ByteArray) (hs : s.size ≤ 9223372036854775806) : M_task_named s = some ((bl s).all charF && decide (s.size ≤ 256)) := by
  rw [M_task_named, M_task_named_L1_eq _ rfl (by omega)]
  have := rn_all (γ := Bool) (B := M_task_named_L1_B s) (E := M_task_named_L1_E s) (p := fun k => match (bl s)[k]? with | some c => charF c | none => false) (c := some false) (m := s.size) (n := 0) (fun k _ hk rc => by
    obtain ⟨c, h1, h2⟩ := byt_at s k (by omega)
    have g1 : (0 : Int) ≤ (k : Int) := by omega
    have g2 : (k : Int) < (s.size : Int) := by omega
    simp only [M_task_named_L1_B, h1, h2, sel_dec, grd_t g1, grd_t g2]
    unfold charF
    by_cases c1 : (c.toNat : Int) < 32
    · rw [if_pos c1, if_neg (by simp; omega)]
    · rw [if_neg c1]
      by_cases c2 : (c.toNat : Int) > 126
      · rw [if_pos c2, if_neg (by simp; omega)]
      · rw [if_neg c2, if_pos (by simp; omega)])
  rw [show ((0 : Int)) = ((0 : Nat) : Int) from rfl, this, range_bytes]
  cases (bl s).all charF
  · rfl
  · by_cases h : s.size ≤ 256 <;> simp [M_task_named_L1_E, h] <;> omega
/-- what is asked of an operator -/
def effF (vars : List Int) (e : GEffect) : Bool := propF vars (-1) e.When && propF vars (-1) [(e.Var, e.Val)]
/-- sizes that the form of the statement grants -/
structure ShO (o : GOp) : Prop where
  name : o.Name.size ≤ 9223372036854775806
  pre : Sh o.Pre
  effs : Sh o.Effs
  when : ∀ e ∈ o.Effs, Sh e.When
structure ShT (t : GTask) : Prop where
  vars : Sh t.Vars
  init : Sh t.Init
  goal : Sh t.Goal
  ops : Sh t.Ops
  op : ∀ o ∈ t.Ops, ShO o
end Go.Proofs.YtohjegemooakpaaGreat.Am
/- Plain laws of tasks: what task.Check answers. -/
namespace Go.Proofs.YtohjegemooakpaaGreat.Am
open Go.RowKit
/-- a loop that looks for an element -/
theorem idx_eq {l : List (List Fact)} {f : List Fact → Option Bool} {p : List Fact → Bool} (hl : Sh l) (h : ∀ y ∈ l, f y = some (p y)) : ∃ z, M_s_IndexFunc_Fact l f = some z ∧ (0 ≤ z ↔ l.any p = true) := by
  rw [M_s_IndexFunc_Fact, M_s_IndexFunc_Fact_L1_eq _ _ hl.lt]
  have key : ∀ (r : List (List Fact)) (n : Nat), (∀ y ∈ r, f y = some (p y)) → ∃ z, Rg (M_s_IndexFunc_Fact_L1_B l f) (M_s_IndexFunc_Fact_L1_E l f) r n () = some z ∧ (0 ≤ z ↔ r.any p = true) := by
    intro r
    induction r with
    | nil => intro n _; exact ⟨-1, rfl, by simp⟩
    | cons y r ih =>
      intro n hr
      rw [Rg]
      simp only [M_s_IndexFunc_Fact_L1_B, ixv, hr y (by simp), ob1_some]
      cases hp : p y
      · obtain ⟨z, h1, h2⟩ := ih (n + 1) (fun w hw => hr w (by simp [hw]))
        exact ⟨z, h1, by rw [h2, List.any_cons, hp, Bool.false_or]⟩
      · exact ⟨n, rfl, by simp [hp]⟩
  exact key l 0 h
theorem containsFunc_eq {l : List (List Fact)} {f : List Fact → Option Bool} {p : List Fact → Bool} (hl : Sh l) (h : ∀ y ∈ l, f y = some (p y)) : M_s_ContainsFunc_Fact l f = some (l.any p) := by
  obtain ⟨z, h1, h2⟩ := idx_eq hl h
  rw [M_s_ContainsFunc_Fact, h1, ob1_some]
  congr 1
  rw [Bool.eq_iff_iff, decide_eq_true_iff, ge_iff_le, h2]
/-- all conditions of a task -/
def condsO (o : GOp) : List (List Fact) := o.Pre :: o.Effs.map (·.When)
def condsF (t : GTask) : List (List Fact) := t.Goal :: t.Ops.flatMap condsO
theorem conds1 (o : GOp) : ∀ (r : List GEffect) (i : Int) (v : List (List Fact)), v.length + r.length ≤ 1000000 → Rg (M_task_conditions_L1_B o) (M_task_conditions_L1_E o) r i v = some (v ++ r.map (·.When))
  | [], _, v, _ => by simp [Rg, M_task_conditions_L1_E]
  | e :: r, i, v, h => by
    simp only [List.length_cons] at h
    rw [Rg]
    simp only [M_task_conditions_L1_B, ixv, grd_t (show (v.length + 1) * 24 ≤ 140737488355328 by omega)]
    rw [conds1 o r (i + 1) (v ++ [e.When]) (by simp; omega)]
    simp
theorem conds2 (t : GTask) : ∀ (r : List GOp) (i : Int) (v : List (List Fact)), (∀ o ∈ r, o.Effs.length ≤ 64) → v.length + r.length * 65 ≤ 1000000 → Rg (M_task_conditions_L2_B t) (M_task_conditions_L2_E t) r i v = some (v ++ r.flatMap condsO)
  | [], _, v, _, h => by
    simp only [List.length_nil] at h
    simp [Rg, M_task_conditions_L2_E, grd_t (show v.length ≤ 140737488355328 by omega)]
  | o :: r, i, v, hr, h => by
    simp only [List.length_cons] at h
    have ho := hr o (by simp)
    rw [Rg]
    simp only [M_task_conditions_L2_B, ixv, grd_t (show (v.length + 1) * 24 ≤ 140737488355328 by omega)]
    rw [M_task_conditions_L1_eq o _ (by omega), conds1 o o.Effs 0 (v ++ [o.Pre]) (by simp; omega), ob1_some, conds2 t r (i + 1) _ (fun q hq => hr q (by simp [hq])) (by simp; omega)]
    simp [condsO]
theorem conds_eq (t : GTask) (h1 : t.Ops.length ≤ 4096) (h2 : ∀ o ∈ t.Ops, o.Effs.length ≤ 64) : M_task_conditions t = some (condsF t) := by
  rw [M_task_conditions, M_task_conditions_L2_eq _ _ (by omega), conds2 t t.Ops 0 [t.Goal] h2 (by simp; omega)]
  rfl
theorem flat_len : ∀ (r : List GOp), (∀ o ∈ r, o.Effs.length ≤ 64) → (r.flatMap condsO).length ≤ r.length * 65
  | [], _ => by simp
  | o :: r, h => by
    have h1 := flat_len r (fun q hq => h q (by simp [hq]))
    have h2 := h o (by simp)
    have h3 : (condsO o).length = o.Effs.length + 1 := by simp [condsO]
    rw [List.flatMap_cons, List.length_append, List.length_cons]
    omega
theorem conds_len (t : GTask) (h1 : t.Ops.length ≤ 4096) (h2 : ∀ o ∈ t.Ops, o.Effs.length ≤ 64) : (condsF t).length ≤ 300000 := by
  have := flat_len t.Ops h2
  rw [condsF, List.length_cons]
  omega
/-- too much of something -/
def largeF (t : GTask) : Bool := decide (t.Vars.length > 64) || (decide (t.Ops.length > 4096) || (t.Ops.any (fun o => decide (o.Effs.length > 64)) || (condsF t).any (fun l => decide (l.length > 64))))
theorem large_eq (t : GTask) (ht : ShT t) : M_task_large t = some (largeF t) := by
  rw [M_task_large]
  unfold largeF
  simp only [sel_dec, List.length_map]
  by_cases c1 : (t.Vars.length : Int) > 64
  · rw [if_pos c1, decide_eq_true (by omega)]; rfl
  · rw [if_neg c1, decide_eq_false (by omega)]
    by_cases c2 : (t.Ops.length : Int) > 4096
    · rw [if_pos c2, decide_eq_true (p := t.Ops.length > 4096) (by omega)]; rfl
    · rw [if_neg c2, decide_eq_false (p := t.Ops.length > 4096) (by omega), ob1_some, osum_inl]
      have e := M_task_large_L1_eq t ht.ops.lt
      rw [List.length_map] at e
      rw [e]
      simp only [Bool.false_or]
      by_cases c3 : ∃ o ∈ t.Ops, o.Effs.length > 64
      · have : (t.Ops.any (fun o => decide (o.Effs.length > 64))) = true := by
          rw [List.any_eq_true]
          obtain ⟨o, h1, h2⟩ := c3
          exact ⟨o, h1, by simpa using h2⟩
        rw [this, Bool.true_or, rg_all (p := fun o => decide (o.Effs.length ≤ 64)) (c := some true) (fun o _ i rc => by
          simp only [M_task_large_L1_B, ixv, sel_dec, List.length_map]
          by_cases c : (o.Effs.length : Int) > 64
          · rw [if_pos c, if_neg (by simp; omega)]
          · rw [if_neg c, if_pos (by simp; omega)]), if_neg]
        rw [List.all_eq_true]
        intro h
        obtain ⟨o, h1, h2⟩ := c3
        have := h o h1
        simp at this
        omega
      · have hall : ∀ o ∈ t.Ops, o.Effs.length ≤ 64 := fun o ho => by
          rcases Nat.lt_or_ge 64 o.Effs.length with h | h
          · exact absurd ⟨o, ho, h⟩ c3
          · exact h
        have : (t.Ops.any (fun o => decide (o.Effs.length > 64))) = false := by
          rw [List.any_eq_false]
          intro o ho
          have := hall o ho
          simp; omega
        rw [this, Bool.false_or, rg_all (p := fun o => decide (o.Effs.length ≤ 64)) (c := some true) (fun o _ i rc => by
          simp only [M_task_large_L1_B, ixv, sel_dec, List.length_map]
          by_cases c : (o.Effs.length : Int) > 64
          · rw [if_pos c, if_neg (by simp; omega)]
          · rw [if_neg c, if_pos (by simp; omega)]), if_pos (by rw [List.all_eq_true]; intro o ho; have := hall o ho; simpa using this)]
        have hc := conds_len t (by omega) hall
        rw [M_task_large_L1_E, conds_eq t (by omega) hall, ob1_some, containsFunc_eq (p := fun l => decide (l.length > 64)) (by unfold Sh; omega) (fun y _ => by
          rw [M_task_large_1, List.length_map]
          congr 1
          rw [Bool.eq_iff_iff, decide_eq_true_iff, decide_eq_true_iff]
          omega)]
        rfl
/-- the error of a task -/
def checkF (t : GTask) : Er :=
  if largeF t = true then .no 5
  else if t.Vars.all (fun n => decide (1 ≤ n ∧ n ≤ 64)) = true then
    if t.Ops.all (fun o => decide (0 ≤ o.Cost ∧ o.Cost ≤ 1048576)) = true then
      if (stateF t.Vars t.Init && ((condsF t).all (propF t.Vars (-1)) && t.Ops.all (fun o => o.Effs.all (fun e => propF t.Vars (-1) [(e.Var, e.Val)])))) = true then
        if t.Ops.all (fun o => (bl o.Name).all charF && decide (o.Name.size ≤ 256)) = true then .nil else .no 8
      else .no 2
    else .no 1
  else .no 1
theorem notlarge {t : GTask} (h : largeF t = false) : t.Vars.length ≤ 64 ∧ t.Ops.length ≤ 4096 ∧ (∀ o ∈ t.Ops, o.Effs.length ≤ 64) ∧ ∀ l ∈ condsF t, l.length ≤ 64 := by
  unfold largeF at h
  simp only [Bool.or_eq_false_iff, decide_eq_false_iff_not, List.any_eq_false, decide_eq_true_iff] at h
  obtain ⟨h1, h2, h3, h4⟩ := h
  exact ⟨by omega, by omega, fun o ho => by have := h3 o ho; omega, fun l hl => by have := h4 l hl; omega⟩
theorem conds_sh {t : GTask} (ht : ShT t) : ∀ l ∈ condsF t, Sh l := by
  intro l hl
  simp only [condsF, List.mem_cons, List.mem_flatMap, condsO, List.mem_map] at hl
  rcases hl with rfl | ⟨o, ho, rfl | ⟨e, he, rfl⟩⟩
  · exact ht.goal
  · exact (ht.op o ho).pre
  · exact (ht.op o ho).when e he
theorem check_eq (t : GTask) (ht : ShT t) : M_task_Check t = some (checkF t) := by
  have e1 : M_task_Check_L1 t ((((t.Vars.map cI).length : Int)).toNat + 1) 0 = if t.Vars.all (fun n => decide (1 ≤ n ∧ n ≤ 64)) = true then some (.inl ()) else some (.inr (Er.no 1)) := by
    rw [M_task_Check_L1_eq _ ht.vars.lt, rg_all (p := fun n => decide (1 ≤ n ∧ n ≤ 64)) (c := some (.inr (Er.no 1))) (fun n _ i rc => by
      simp only [M_task_Check_L1_B, ixv, sel_dec]
      by_cases c1 : n < 1
      · rw [if_pos c1, if_neg (by simp; omega)]
      · rw [if_neg c1]
        by_cases c2 : n > 64
        · rw [if_pos c2, if_neg (by simp; omega)]
        · rw [if_neg c2, if_pos (by simp; omega)])]
    rfl
  have e2 : M_task_Check_L2 t ((((t.Ops.map cGOp).length : Int)).toNat + 1) 0 = if t.Ops.all (fun o => decide (0 ≤ o.Cost ∧ o.Cost ≤ 1048576)) = true then some (.inl ()) else some (.inr (Er.no 1)) := by
    rw [M_task_Check_L2_eq _ ht.ops.lt, rg_all (p := fun o => decide (0 ≤ o.Cost ∧ o.Cost ≤ 1048576)) (c := some (.inr (Er.no 1))) (fun o _ i rc => by
      simp only [M_task_Check_L2_B, ixv, sel_dec]
      by_cases c1 : o.Cost < 0
      · rw [if_pos c1, if_neg (by simp; omega)]
      · rw [if_neg c1]
        by_cases c2 : o.Cost > 1048576
        · rw [if_pos c2, if_neg (by simp; omega)]
        · rw [if_neg c2, if_pos (by simp; omega)])]
    rfl
  have e3 : ∀ z : List (List Fact), Sh z → (∀ l ∈ z, Sh l) → M_task_Check_L3 t z ((((z.map cL_cF).length : Int)).toNat + 1) 0 = if z.all (propF t.Vars (-1)) = true then some (.inl ()) else some (.inr (Er.no 2)) := fun z hz hz2 => by
    rw [M_task_Check_L3_eq _ _ hz.lt, rg_all (p := propF t.Vars (-1)) (c := some (.inr (Er.no 2))) (fun l hl i rc => by
      simp only [M_task_Check_L3_B, ixv, facts_eq t.Vars l (hz2 l hl), ob1_some]
      cases propF t.Vars (-1) l <;> rfl)]
    rfl
  have e4 : ∀ o ∈ t.Ops, M_task_Check_L4 t o ((((o.Effs.map cGEffect).length : Int)).toNat + 1) 0 = if o.Effs.all (fun e => propF t.Vars (-1) [(e.Var, e.Val)]) = true then some (.inl ()) else some (.inr (Er.no 2)) := fun o ho => by
    rw [M_task_Check_L4_eq _ _ (ht.op o ho).effs.lt, rg_all (p := fun e => propF t.Vars (-1) [(e.Var, e.Val)]) (c := some (.inr (Er.no 2))) (fun e _ i rc => by
      simp only [M_task_Check_L4_B, ixv, facts_eq t.Vars [(e.Var, e.Val)] (by simp [Sh]), ob1_some]
      cases propF t.Vars (-1) [(e.Var, e.Val)] <;> rfl)]
    rfl
  have e5 : M_task_Check_L5 t ((((t.Ops.map cGOp).length : Int)).toNat + 1) 0 = if t.Ops.all (fun o => o.Effs.all (fun e => propF t.Vars (-1) [(e.Var, e.Val)])) = true then some (.inl ()) else some (.inr (Er.no 2)) := by
    rw [M_task_Check_L5_eq _ ht.ops.lt, rg_all (p := fun o => o.Effs.all (fun e => propF t.Vars (-1) [(e.Var, e.Val)])) (c := some (.inr (Er.no 2))) (fun o ho i rc => by
      simp only [M_task_Check_L5_B, ixv, e4 o ho]
      split <;> rfl)]
    rfl
  have e6 : M_task_Check_L6 t ((((t.Ops.map cGOp).length : Int)).toNat + 1) 0 = if t.Ops.all (fun o => (bl o.Name).all charF && decide (o.Name.size ≤ 256)) = true then some .nil else some (Er.no 8) := by
    rw [M_task_Check_L6_eq _ ht.ops.lt, rg_all (p := fun o => (bl o.Name).all charF && decide (o.Name.size ≤ 256)) (c := some (Er.no 8)) (fun o ho i rc => by
      have := (ht.op o ho).name
      simp only [M_task_Check_L6_B, ixv, named_eq o.Name (by omega), ob1_some]
      cases (bl o.Name).all charF && decide (o.Name.size ≤ 256) <;> rfl)]
    rfl
  rw [M_task_Check, large_eq t ht, ob1_some, e1, e2, e5, e6, tproper_eq _ _ ht.init]
  unfold checkF
  cases hlg : largeF t
  · obtain ⟨l1, l2, l3, l4⟩ := notlarge hlg
    have hc := conds_len t l2 l3
    simp only [conds_eq t l2 l3, ob1_some, e3 (condsF t) (by unfold Sh; omega) (conds_sh ht), sel, Bool.false_eq_true, if_false]
    cases t.Vars.all (fun n => decide (1 ≤ n ∧ n ≤ 64))
    · rfl
    · cases t.Ops.all (fun o => decide (0 ≤ o.Cost ∧ o.Cost ≤ 1048576))
      · rfl
      · cases stateF t.Vars t.Init
        · rfl
        · cases (condsF t).all (propF t.Vars (-1))
          · rfl
          · cases t.Ops.all (fun o => o.Effs.all (fun e => propF t.Vars (-1) [(e.Var, e.Val)]))
            · rfl
            · cases t.Ops.all (fun o => (bl o.Name).all charF && decide (o.Name.size ≤ 256)) <;> rfl
  · rfl
theorem propF_len (vars : List Int) : ∀ (l : List Fact) (last : Int), propF vars last l = true → last < vars.length → (l.length : Int) + last < vars.length
  | [], _, _, h => by simpa using h
  | y :: r, last, h, hl => by
    rw [propF, Bool.and_eq_true, decide_eq_true_iff] at h
    have := propF_len vars r y.1 h.2 h.1.2.1
    simp only [List.length_cons]
    omega
theorem propF_len' {vars : List Int} {l : List Fact} (h : propF vars (-1) l = true) : l.length ≤ vars.length := by
  have := propF_len vars l (-1) h (by omega)
  omega
end Go.Proofs.YtohjegemooakpaaGreat.Am
/- Plain laws of lists of facts: ascending; sorted, each once; partial.valid, Make, Join. -/
namespace Go.Proofs.YtohjegemooakpaaGreat.Am
open Go.RowKit
def Asc (l : List Fact) : Prop := l.Pairwise fun a b => a.1 < b.1
def Nonneg (l : List Fact) : Prop := ∀ x ∈ l, 0 ≤ x.1 ∧ 0 ≤ x.2
/-- a partial state -/
def vF : Int → List Fact → Bool
  | _, [] => true
  | last, y :: r => decide (last < y.1 ∧ 0 ≤ y.2) && vF y.1 r
theorem valid_loop (l : List Fact) (hs : Sh l) : ∀ (r : List Fact) (n : Nat) (last : Int), l.drop n = r → n ≤ l.length → -1 ≤ last → (n = 0 → last = -1) → (∀ m, n = m + 1 → ∃ x, l[m]? = some x ∧ x.1 = last) → Rg (M_p_valid_L1_B l) (M_p_valid_L1_E l) r n () = some (vF last r)
  | [], _, _, _, _, _, _, _ => rfl
  | y :: r, n, last, hd, hn, hl, h0, hp => by
    rw [Rg, vF]
    obtain ⟨hy, hd', hlt⟩ := drop_cons hd
    have hih : 0 ≤ y.1 → Rg (M_p_valid_L1_B l) (M_p_valid_L1_E l) r ((n : Int) + 1) () = some (vF y.1 r) := fun h => valid_loop l hs r (n + 1) y.1 hd' hlt (by omega) (by omega) (fun m hm => ⟨y, by rw [show m = n by omega]; exact hy, rfl⟩)
    simp only [M_p_valid_L1_B, ixv, sel_dec]
    by_cases h1 : y.1 < 0
    · rw [if_pos h1, decide_eq_false (by omega)]; rfl
    · rw [if_neg h1]
      by_cases h3 : y.2 < 0
      · rw [if_pos h3, decide_eq_false (by omega)]; rfl
      · rw [if_neg h3]
        cases n with
        | zero =>
          have := h0 rfl
          rw [if_neg (by omega), decide_eq_true (by omega)]
          exact hih (by omega)
        | succ m =>
          obtain ⟨x, hx, hxl⟩ := hp m rfl
          rw [if_pos (by omega), w64 (by omega) (by have := hs; unfold Sh at this; omega), show (((m + 1 : Nat) : Int) - 1) = (m : Int) by omega, ix_at hx]
          by_cases h5 : x.1 ≥ y.1
          · rw [if_pos h5, decide_eq_false (by omega)]; rfl
          · rw [if_neg h5, decide_eq_true (by omega)]
            exact hih (by omega)
theorem valid_eq (l : List Fact) (hl : Sh l) : M_p_valid l = some (vF (-1) l) := by
  rw [M_p_valid, M_p_valid_L1_eq _ hl.lt]
  exact valid_loop l hl l 0 (-1) rfl (Nat.zero_le _) (by omega) (fun _ => rfl) (fun m hm => by omega)
theorem vF_iff : ∀ (l : List Fact) (last : Int), vF last l = true ↔ (∀ x ∈ l, last < x.1 ∧ 0 ≤ x.2) ∧ Asc l
  | [], last => by simp [vF, Asc]
  | y :: r, last => by
    rw [vF, Bool.and_eq_true, decide_eq_true_iff, vF_iff r y.1]
    unfold Asc
    rw [List.pairwise_cons]
    constructor
    · rintro ⟨h1, h2, h3⟩
      refine ⟨fun x hx => ?_, fun x hx => (h2 x hx).1, h3⟩
      rcases List.mem_cons.1 hx with rfl | hx
      · exact h1
      · have := h2 x hx; omega
    · rintro ⟨h1, h2, h3⟩
      exact ⟨h1 y (by simp), fun x hx => ⟨h2 x hx, (h1 x (by simp [hx])).2⟩, h3⟩
theorem vF_iff' (l : List Fact) : vF (-1) l = true ↔ Nonneg l ∧ Asc l := by
  rw [vF_iff]
  constructor
  · rintro ⟨h1, h2⟩
    exact ⟨fun x hx => ⟨by have := (h1 x hx).1; omega, (h1 x hx).2⟩, h2⟩
  · rintro ⟨h1, h2⟩
    exact ⟨fun x hx => ⟨by have := (h1 x hx).1; omega, (h1 x hx).2⟩, h2⟩
theorem propF_vF (vars : List Int) : ∀ (l : List Fact) (last : Int), propF vars last l = true → vF last l = true
  | [], _, _ => rfl
  | y :: r, last, h => by
    rw [propF, Bool.and_eq_true, decide_eq_true_iff] at h
    rw [vF, propF_vF vars r y.1 h.2, decide_eq_true ⟨h.1.1, h.1.2.2.1⟩]
    rfl
end Go.Proofs.YtohjegemooakpaaGreat.Am
/- Plain laws: regress.compare, BinarySearchFunc over a strictly ascending list. -/
namespace Go.Proofs.YtohjegemooakpaaGreat.Am
open Go.RowKit
def SortedL (l : List (List Fact)) : Prop := l.Pairwise fun a b => cmpLF a b < 0
end Go.Proofs.YtohjegemooakpaaGreat.Am
/- Plain laws: regress.join, regress.silent. -/
namespace Go.Proofs.YtohjegemooakpaaGreat.Am
open Go.RowKit
abbrev PropL (vars : List Int) (l : List (List Fact)) : Prop := ∀ x ∈ l, propF vars (-1) x = true
theorem propF_vF' {vars : List Int} {l : List Fact} (h : propF vars (-1) l = true) : vF (-1) l = true := propF_vF vars l (-1) h
structure JInv (vars : List Int) (s o : List (List Fact)) : Prop where
  asc : SortedL s
  len : s.length = o.length
  mem : ∀ z, z ∈ s ↔ z ∈ o
  prop : PropL vars o
theorem prop_len {vars : List Int} (hv : vars.length ≤ 64) {x : List Fact} (h : propF vars (-1) x = true) : x.length ≤ 64 := Nat.le_trans (propF_len' h) hv
theorem prop_sh {vars : List Int} (hv : vars.length ≤ 64) {x : List Fact} (h : propF vars (-1) x = true) : Sh x := Nat.le_trans (prop_len hv h) (by decide)
end Go.Proofs.YtohjegemooakpaaGreat.Am
/- Plain laws: regress.cases, preimage. -/
namespace Go.Proofs.YtohjegemooakpaaGreat.Am
open Go.RowKit
structure Ok (vars : List Int) : Prop where
  len : vars.length ≤ 64
  dom : ∀ n ∈ vars, 0 ≤ n ∧ n ≤ 64
abbrev WhenP (vars : List Int) (es : List GEffect) : Prop := ∀ e ∈ es, propF vars (-1) e.When = true
end Go.Proofs.YtohjegemooakpaaGreat.Am
/- Plain laws: regress.preimage, partial.Minimal, regress.Regress, Possible. -/
namespace Go.Proofs.YtohjegemooakpaaGreat.Am
open Go.RowKit
-- preimage
structure OkO (vars : List Int) (o : GOp) : Prop where
  effs : o.Effs.length ≤ 64
  when : WhenP vars o.Effs
  pre : propF vars (-1) o.Pre = true
def findF : List Fact → Int → Int
  | [], _ => -1
  | f :: r, v => if f.1 = v then f.2 else findF r v
theorem find_loop (l : List Fact) (v : Int) : ∀ (r : List Fact) (i : Int), Rg (M_p_find_L1_B l v) (M_p_find_L1_E l v) r i () = some (findF r v)
  | [], i => rfl
  | f :: r, i => by
    rw [Rg, M_p_find_L1_B, ixv, findF]
    by_cases h : f.1 = v
    · rw [show (f.1 == v) = true from by simp [h], sel_tt, if_pos h]
    · rw [show (f.1 == v) = false from by simp [h], sel_ff, if_neg h, find_loop l v r]
theorem find_eq (l : List Fact) (v : Int) (hl : Sh l) : M_p_find l v = some (findF l v) := by rw [M_p_find, M_p_find_L1_eq l v hl.lt, find_loop]
theorem findF_mem : ∀ {l : List Fact} {f : Fact}, Asc l → 0 ≤ f.2 → (findF l f.1 = f.2 ↔ f ∈ l)
  | [], f, _, h0 => by rw [findF]; constructor; (intro h; omega); exact (nofun)
  | x :: r, f, ha, h0 => by
    obtain ⟨h1, h2⟩ := List.pairwise_cons.1 ha
    rw [findF, List.mem_cons]
    by_cases h : x.1 = f.1
    · rw [if_pos h]
      constructor
      · intro e; exact Or.inl (Prod.ext h.symm e.symm)
      · rintro (rfl | hm)
        · rfl
        · have := h1 f hm; omega
    · rw [if_neg h, findF_mem h2 h0]
      constructor
      · exact Or.inr
      · rintro (rfl | hm)
        · exact absurd rfl h
        · exact hm
def subF (b a : List Fact) : Bool := b.all fun f => decide (f ∈ a)
theorem subF_iff {a b : List Fact} : subF b a = true ↔ ∀ f ∈ b, f ∈ a := by simp [subF]
theorem contains_eq (a b : List Fact) (ha : Sh a) (hb : Sh b) (hva : vF (-1) a = true) (hvb : vF (-1) b = true) : M_p_contains a b = some (subF b a) := by
  rw [M_p_contains, M_p_contains_L1_eq a b hb.lt, rg_all (p := fun f => decide (f ∈ a)) (c := some false)]
  · rw [M_p_contains_L1_E]; show _ = some (b.all _); cases b.all fun f => decide (f ∈ a) <;> rfl
  · intro y hy i rc
    have h := findF_mem (f := y) ((vF_iff' a).1 hva).2 ((vF_iff' b).1 hvb |>.1 y hy).2
    rw [M_p_contains_L1_B, ixv, find_eq a _ ha, ob1_some]
    by_cases hm : y ∈ a
    · rw [show (findF a y.1 != y.2) = false from by rw [h.2 hm]; simp, sel_ff, decide_eq_true hm, if_pos rfl]
    · rw [show (findF a y.1 != y.2) = true from by rw [bne_iff_ne]; exact fun e => hm (h.1 e), sel_tt, decide_eq_false hm, if_neg (by decide)]
theorem sub_len : ∀ {a b : List Fact}, Asc a → Asc b → (∀ f ∈ b, f ∈ a) → b.length ≤ a.length ∧ (b.length = a.length → b = a)
  | [], [], _, _, _ => ⟨Nat.le_refl _, fun _ => rfl⟩
  | [], y :: s, _, _, h => nomatch h y (List.mem_cons_self ..)
  | x :: r, [], _, _, _ => ⟨Nat.zero_le _, fun e => by cases e⟩
  | x :: r, y :: s, ha, hb, h => by
    obtain ⟨h1, h2⟩ := List.pairwise_cons.1 ha
    obtain ⟨k1, k2⟩ := List.pairwise_cons.1 hb
    rcases List.mem_cons.1 (h y (List.mem_cons_self ..)) with e | hy
    · subst e
      obtain ⟨i1, i2⟩ := sub_len h2 k2 (fun z hz => by
        rcases List.mem_cons.1 (h z (List.mem_cons_of_mem _ hz)) with e | h'
        · have := k1 z hz; rw [e] at this; omega
        · exact h')
      refine ⟨by rw [List.length_cons, List.length_cons]; omega, fun e => ?_⟩
      rw [List.length_cons, List.length_cons] at e
      rw [i2 (by omega)]
    · obtain ⟨i1, -⟩ := sub_len (a := r) h2 hb (fun z hz => by
        rcases List.mem_cons.1 (h z hz) with e | h'
        · have l1 := h1 y hy
          rcases List.mem_cons.1 hz with e2 | hz
          · rw [e] at e2; rw [← e2] at l1; omega
          · have l2 := k1 z hz; rw [e] at l2; omega
        · exact h')
      rw [List.length_cons] at i1
      exact ⟨by rw [List.length_cons, List.length_cons]; omega, fun e => by rw [List.length_cons, List.length_cons] at e; omega⟩
theorem nodup_at {α : Type} {l : List α} (h : l.Nodup) {i j : Nat} {x : α} (hi : l[i]? = some x) (hj : l[j]? = some x) : i = j := by
  obtain ⟨b1, b2⟩ := List.getElem?_eq_some_iff.1 hi
  obtain ⟨b3, b4⟩ := List.getElem?_eq_some_iff.1 hj
  rcases Nat.lt_trichotomy i j with hl | hl | hl
  · exact absurd (b2.trans b4.symm) (List.pairwise_iff_getElem.1 h i j b1 b3 hl)
  · exact hl
  · exact absurd (b4.trans b2.symm) (List.pairwise_iff_getElem.1 h j i b3 b1 hl)
def keepF (l : List (List Fact)) (x : List Fact) : Bool := l.all fun y => !(subF y x && decide (y ≠ x))
theorem min1 (vars : List Int) (hv : vars.length ≤ 64) (l : List (List Fact)) (hl : PropL vars l) (hn : l.Nodup) (i : Nat) (x : List Fact) (hx : l[i]? = some x) : ∀ (r : List (List Fact)) (n : Nat), l.drop n = r →
    Rg (M_p_Minimal_L1_B l i x) (M_p_Minimal_L1_E l i x) r n () = some (r.all fun y => !(subF y x && decide (y ≠ x)))
  | [], n, h => rfl
  | y :: r, n, h => by
    obtain ⟨hy, hd, hlt⟩ := drop_cons h
    have hxp := hl x (List.mem_of_getElem? hx)
    have hyp := hl y (List.mem_of_getElem? hy)
    have ih := min1 vars hv l hl hn i x hx r (n + 1) hd
    have vx := propF_vF' hxp
    have vy := propF_vF' hyp
    rw [Rg, M_p_Minimal_L1_B, ixv, List.all_cons]
    by_cases e : i = n
    · subst e
      obtain rfl : x = y := by rw [hx] at hy; exact Option.some.inj hy
      rw [show ((i : Int) != (i : Int)) = false from by simp, sel_ff, decide_eq_false (by simp), Bool.and_false, Bool.not_false, Bool.true_and]
      exact ih
    · have hne : y ≠ x := fun h => e (nodup_at hn hx (h ▸ hy))
      rw [show ((i : Int) != (n : Int)) = true from by rw [bne_iff_ne]; omega, sel_tt, valid_eq y (prop_sh hv hyp), vy, ob1_some, sel_tt, contains_eq x y (prop_sh hv hxp) (prop_sh hv hyp) vx vy, ob1_some, decide_eq_true hne, Bool.and_true]
      cases hs : subF y x with
      | false => rw [sel_ff, Bool.not_false, Bool.true_and]; exact ih
      | true =>
        obtain ⟨s1, s2⟩ := sub_len ((vF_iff' x).1 vx).2 ((vF_iff' y).1 vy).2 (subF_iff.1 hs)
        have : y.length ≠ x.length := fun e => hne (s2 e)
        rw [sel_tt, sel_dec, if_pos (by rw [List.length_map, List.length_map]; omega), Bool.not_true, Bool.false_and]
theorem min2 (vars : List Int) (hv : vars.length ≤ 64) (l : List (List Fact)) (hl : PropL vars l) (hn : l.Nodup) (hc : l.length ≤ 100000) : ∀ (r : List (List Fact)) (n : Nat) (v : List (List Fact)), l.drop n = r → v.length ≤ n →
    Rg (M_p_Minimal_L2_B l) (M_p_Minimal_L2_E l) r n v = some (v ++ r.filter (keepF l))
  | [], n, v, h, hvl => by rw [Rg, M_p_Minimal_L2_E, List.filter_nil, List.append_nil]
  | x :: r, n, v, h, hvl => by
    obtain ⟨hy, hd, hlt⟩ := drop_cons h
    have hxp := hl x (List.mem_of_getElem? hy)
    have hxl := prop_len hv hxp
    rw [Rg, M_p_Minimal_L2_B, ixv, valid_eq x (prop_sh hv hxp), propF_vF' hxp, ob1_some, Bool.not_true, sel_ff, M_p_Minimal_L1_eq l n x (by omega)]
    have h1 := min1 vars hv l hl hn n x hy l 0 rfl
    rw [show ((0 : Nat) : Int) = 0 from rfl] at h1
    rw [h1, ob1_some, List.filter_cons]
    show ob1 (sel (keepF l x) _ _) _ = _
    cases keepF l x with
    | true =>
      rw [sel_tt, M_cloneF, grd_t (by omega), ob1_some, grd_t (by omega), grd_t (by omega), ob1_some, if_pos rfl]
      have := min2 vars hv l hl hn hc r (n + 1) (v ++ [x]) hd (by rw [List.length_append, List.length_singleton]; omega)
      rw [List.append_assoc, List.singleton_append] at this
      exact this
    | false =>
      rw [sel_ff, ob1_some, if_neg (by decide)]
      exact min2 vars hv l hl hn hc r (n + 1) v hd (by omega)
end Go.Proofs.YtohjegemooakpaaGreat.Am
/- Plain laws: stratagembase.Facts, Is, Holds, Small. -/
namespace Go.Proofs.YtohjegemooakpaaGreat.Am
open Go.RowKit
theorem fact_beq (x y : Fact) : (x.1 == y.1 && x.2 == y.2) = decide (x = y) := by
  rw [Bool.eq_iff_iff, Bool.and_eq_true, beq_iff_eq, beq_iff_eq, decide_eq_true_iff, Prod.ext_iff]
/-- the number of states, capped -/
def manyF (most : Int) : List Int → Int → Int
  | [], n => n
  | k :: r, n => if n * min (max k 0) (most + 1) > most then most + 1 else manyF most r (n * min (max k 0) (most + 1))
theorem many_loop (most : Int) (hm : 0 ≤ most ∧ most ≤ 1048576) (vars : List Int) : ∀ (r : List Int) (i n : Int), 0 ≤ n → n ≤ 1048576 → Rg (M_b_Many_L1_B vars most) (M_b_Many_L1_E vars most) r i n = some (manyF most r n)
  | [], i, n, _, _ => rfl
  | k :: r, i, n, h0, h1 => by
    have hb : 0 ≤ min (max k 0) (most + 1) ∧ min (max k 0) (most + 1) ≤ 1048577 := by omega
    have h2 : 0 ≤ n * min (max k 0) (most + 1) := Int.mul_nonneg h0 hb.1
    have h3 : n * min (max k 0) (most + 1) ≤ 1048576 * 1048577 := Int.mul_le_mul h1 hb.2 hb.1 (by decide)
    rw [Rg, M_b_Many_L1_B, ixv, w64 (z := most + 1) (by omega) (by omega), w64 (z := n * min (max k 0) (most + 1)) (by omega) (by omega), sel_dec, manyF]
    by_cases h : n * min (max k 0) (most + 1) > most
    · rw [if_pos h, if_pos h]
    · rw [if_neg h, if_neg h]
      exact many_loop most hm vars r _ _ h2 (by omega)
theorem many_eq (vars : List Int) (hv : Sh vars) (most : Int) (hm : 0 ≤ most ∧ most ≤ 1048576) : M_b_Many vars most = some (manyF most vars 1) := by
  rw [M_b_Many, M_b_Many_L1_eq vars most _ hv.lt, many_loop most hm vars vars 0 1 (by decide) (by decide)]
end Go.Proofs.YtohjegemooakpaaGreat.Am
/- Plain law: what a regression means for the states. -/
namespace Go.Proofs.YtohjegemooakpaaGreat.Am
open Go.RowKit
/-- a state: a value in range for each variable -/
structure StP (vars s : List Int) : Prop where
  len : s.length = vars.length
  rng : ∀ v : Nat, v < vars.length → 0 ≤ s.getD v 0 ∧ s.getD v 0 < vars.getD v 0
end Go.Proofs.YtohjegemooakpaaGreat.Am
/- Plain laws: stratagembase.States, Apply. -/
namespace Go.Proofs.YtohjegemooakpaaGreat.Am
open Go.RowKit
def extF (s : List Int) : Nat → Int → List (List Int)
  | 0, _ => []
  | m + 1, i => (s ++ [i]) :: extF s m (i + 1)
def statesG : List Int → List (List Int) → List (List Int)
  | [], out => out
  | k :: r, out => statesG r (out.flatMap fun s => extF s k.toNat 0)
theorem extF_len (s : List Int) : ∀ (m : Nat) (i : Int), (extF s m i).length = m
  | 0, _ => rfl
  | m + 1, i => by rw [extF, List.length_cons, extF_len s m]
theorem extF_mem (s z : List Int) : ∀ (m : Nat) (i : Int), z ∈ extF s m i ↔ ∃ x : Int, i ≤ x ∧ x < i + m ∧ z = s ++ [x]
  | 0, i => by rw [extF]; constructor; exact (nofun); rintro ⟨y, h1, h2, -⟩; omega
  | m + 1, i => by
    rw [extF, List.mem_cons, extF_mem s z m]
    constructor
    · rintro (h | ⟨x, h1, h2, h3⟩)
      · exact ⟨i, Int.le_refl _, by omega, h⟩
      · exact ⟨x, by omega, by omega, h3⟩
    · rintro ⟨x, h1, h2, h3⟩
      rcases Int.lt_or_eq_of_le h1 with h | rfl
      · exact Or.inr ⟨x, by omega, by omega, h3⟩
      · exact Or.inl h3
theorem flat_ext_len (m : Nat) : ∀ l : List (List Int), (l.flatMap fun s => extF s m 0).length = l.length * m
  | [] => by simp
  | s :: r => by rw [List.flatMap_cons, List.length_append, extF_len, flat_ext_len m r, List.length_cons, Nat.succ_mul]; omega
theorem states1 (d : Int) (s : List Int) (hs : s.length ≤ 1000) : ∀ (m n : Nat) (v : List (List Int)), v.length + m ≤ 1000000 → Rn (M_b_States_L1_B d s) (M_b_States_L1_E d s) m n v = some (v ++ extF s m n)
  | 0, n, v, h => by rw [Rn, M_b_States_L1_E, extF, List.append_nil]
  | m + 1, n, v, h => by
    rw [Rn, M_b_States_L1_B, grd_t (by omega), grd_t (by omega), grd_t (by omega), grd_t (by omega), extF]
    have ih := states1 d s hs m (n + 1) (v ++ [s ++ [(n : Int)]]) (by rw [List.length_append, List.length_singleton]; omega)
    rw [List.append_assoc, List.singleton_append] at ih
    exact ih
theorem states2 (q : List (List Int)) (d : Int) (hd : 0 ≤ d ∧ d ≤ 1000) : ∀ (r : List (List Int)) (i : Int) (v : List (List Int)), (∀ s ∈ r, s.length ≤ 1000) → v.length + r.length * d.toNat ≤ 1000000 →
    Rg (M_b_States_L2_B q d) (M_b_States_L2_E q d) r i v = some (v ++ r.flatMap fun s => extF s d.toNat 0)
  | [], i, v, _, _ => by rw [Rg, M_b_States_L2_E, List.flatMap_nil, List.append_nil]
  | s :: r, i, v, hs, h => by
    rw [List.length_cons, Nat.succ_mul] at h
    have h1 := states1 d s (hs s (List.mem_cons_self ..)) d.toNat 0 v (by omega)
    rw [show ((0 : Nat) : Int) = 0 from rfl] at h1
    rw [Rg, M_b_States_L2_B, ixv, M_b_States_L1_eq d s v (m := d.toNat) (by omega) (by omega), h1, ob1_some, states2 q d hd r _ _ (fun u hu => hs u (List.mem_cons_of_mem _ hu)) (by rw [List.length_append, extF_len]; omega), List.flatMap_cons, List.append_assoc]
end Go.Proofs.YtohjegemooakpaaGreat.Am
/- Models printed by my decompiler, and the proofs that the code computes them. -/
namespace Go.Proofs.YtohjegemooakpaaGreat.Am
set_option maxHeartbeats 16000000
set_option maxRecDepth 100000
open Go.RowKit
structure GCertificate where
  Bound : Int
  Nogoods : List Nogood
  deriving DecidableEq
def cGCertificate (x : GCertificate) : List AV := [.c (.int .i64 x.Bound), .sl 2 (x.Nogoods.map cN)]
theorem fr_cGCertificate (x : GCertificate) : ∀ y ∈ cGCertificate x, Fr y := FrC_cons (.c _) (FrC_cons (.sl (frl_cN _)) (FrC_nil))
theorem frl_cGCertificate (l : List GCertificate) : FrL (l.map cGCertificate) := FrL_map (fun x _ => fr_cGCertificate x)
instance {l : List GCertificate} : FrI (l.map cGCertificate) := ⟨frl_cGCertificate l⟩
theorem zb_XDLow {P : Prop} (h : P := by repeat (first | exact BWL.nil | exact bwll_nil | exact bw_c | exact BW.sl | exact BW.nil | exact bwll_same rfl FrI.h | refine BWL.cons ?_ ?_ | refine bwll_cons ?_ ?_ | (refine bw_own3 rfl rfl rfl FrI.h ?_ ?_ ?_) | exact BW.fr FrV.h | exact BW.fr (by assumption) | refine bw_agg ?_ | refine bw_clo ?_ | refine bw_ptr rfl rfl rfl ?_ | (refine bw_own rfl rfl rfl ?_ FrI.h ?_ ?_) | assumption | omega | rfl | (rw [List.length_map, ← List.length_append]; assumption) | (refine bwll_same ?_ FrI.h; (simp [cGTask, cI, cF, cGOp, cGEffect, cGCertificate, cN, cGEntry, cL_cF] <;> fail)) | (rw [List.map_set]; refine bwll_set (by first | rfl | omega | simp) ?_ ?_) | refine bwll_set (by first | rfl | omega | simp) ?_ ?_ | (rw [List.map_replicate]; refine bwll_rep ?_) | refine bwll_rep ?_ | (rw [List.map_append]; refine bwll_append ?_ ?_) | refine bwll_append ?_ ?_ | (simp [cGTask, cI, cF, cGOp, cGEffect, cGCertificate, cN, cGEntry, cL_cF, take_len_map] <;> fail) | (rw [List.drop_zero, List.take_of_length_le] <;> first | rfl | (simp [cGTask, cI, cF, cGOp, cGEffect, cGCertificate, cN, cGEntry, cL_cF] <;> fail)) | (simp; omega) | (simp only [List.length_map, List.length_append, List.drop_zero, List.length_cons, List.length_nil, Nat.zero_add, Nat.add_zero] at *; omega))) : P := h
theorem zg_XDLow {P : Prop} (h : P := by repeat (first | exact True.intro | exact gb_nil rfl rfl | exact gb_take rfl ⟨rfl, rfl, rfl⟩ List.map_take FrI.h | refine gb_some ⟨rfl, rfl, rfl⟩ ?_ | refine And.intro ?_ ?_ | refine gw_ren rfl rfl rfl rfl rfl ?_ | exact gw_oren rfl rfl rfl rfl rfl | exact gw_opren rfl rfl rfl rfl rfl | exact gw_onil rfl rfl | refine gw_pren rfl rfl rfl rfl rfl | exact gw_thaw rfl rfl rfl | refine gw_tup ?_ | refine gw_ifc ?_ | exact GWL.nil | exact gwll_nil | exact gw_c | exact GW.sl | exact GW.nil | exact gwll_same rfl FrI.h | refine GWL.cons ?_ ?_ | refine gwll_cons ?_ ?_ | (refine gw_own3 rfl rfl rfl FrI.h ?_ ?_ ?_) | exact GW.fr FrV.h | exact GW.fr (by assumption) | refine gw_agg ?_ | refine gw_clo ?_ | refine gw_ptr rfl rfl rfl ?_ | (refine gw_own rfl rfl rfl ?_ FrI.h ?_ ?_) | assumption | omega | rfl | (rw [List.length_map, ← List.length_append]; assumption) | (refine gwll_same ?_ FrI.h; (simp [cGTask, cI, cF, cGOp, cGEffect, cGCertificate, cN, cGEntry, cL_cF] <;> fail)) | (rw [List.map_set]; refine gwll_set (by first | rfl | omega | simp) ?_ ?_) | refine gwll_set (by first | rfl | omega | simp) ?_ ?_ | (rw [List.map_replicate]; refine gwll_rep ?_) | refine gwll_rep ?_ | (rw [List.map_append]; refine gwll_append ?_ ?_) | refine gwll_append ?_ ?_ | (simp [cGTask, cI, cF, cGOp, cGEffect, cGCertificate, cN, cGEntry, cL_cF, take_len_map] <;> fail) | (rw [List.drop_zero, List.take_of_length_le] <;> first | rfl | (simp [cGTask, cI, cF, cGOp, cGEffect, cGCertificate, cN, cGEntry, cL_cF] <;> fail)) | (simp; omega) | (simp only [List.length_map, List.length_append, List.drop_zero, List.length_cons, List.length_nil, Nat.zero_add, Nat.add_zero] at *; omega))) : P := h
theorem ci_XDLow {p K : Prop} (k : K) (h : p := by first | rfl | exact ⟨rfl, rfl⟩ | exact BW.fr FrV.h | (refine BW.fr ?_; assumption) | (refine ⟨rfl, ?_⟩; (simp [cGTask, cI, cF, cGOp, cGEffect, cGCertificate, cN, cGEntry, cL_cF, take_len_map]; done)) | (refine RowK.same ?_ FrI.h; first | rfl | (simp [cGTask, cI, cF, cGOp, cGEffect, cGCertificate, cN, cGEntry, cL_cF, take_len_map]; done)) | (refine row_part1 ?_; (exact zb_XDLow); done) | ((exact zb_XDLow); done) | (simp [cGTask, cI, cF, cGOp, cGEffect, cGCertificate, cN, cGEntry, cL_cF, take_len_map]; done)) : p ∧ K := ⟨h, k⟩
theorem ca_XDLow {P : Prop} (h : P := by repeat (first | exact True.intro | refine ci_XDLow ?_)) : P := h
theorem pr_XDLow {p K : Prop} (k : K) (h : p := by first | assumption | exact Int.natCast_nonneg _ | exact Nat.le_refl _ | exact Nat.zero_le _ | omega | (simp; done) | (simp; omega)) : p ∧ K := ⟨h, k⟩
theorem pl_XDLow {p K : Prop} (k : K) (h : p := by first | rfl | exact List.length_map _ | (simp; done) | (simp; omega)) : p ∧ K := ⟨h, k⟩
theorem pe_XDLow {p K : Prop} (k : K) (h : p := by first | omega | (simp; omega) | (simp only [List.length_map, List.length_cons, List.length_nil, List.length_append]; omega) | (simp only [List.length_map, List.drop_zero, List.length_cons, List.length_nil, Nat.zero_add, Nat.add_zero] at *; omega)) : p ∧ K := ⟨h, k⟩
theorem dr_XDLow {b : Bool} {p K : Prop} (k : K) (h : b = true → p := by intro h; first | (cases h; done) | exact ⟨by kernel_rfl, by kernel_rfl⟩) : (b = true → p) ∧ K := ⟨h, k⟩
theorem cl_XDLow {C : Cx} {n : Nat} {o : Oper} {τ : Nat → AV} {η : Nat → Ent} {f : FuncId} {os : Array Operand} {ats : Array TypeId} {r : AV} {args : List AV} {K : Foot → Prop} (ho : o.op = .call ⟨.value (.func f), os, ats⟩) (hc : ACall C f args r) (k : K ⟨r, [], []⟩)
    (hd : InB n o.dst := by exact Nat.le_of_ble_eq_true rfl) (hargs : os.toList.map (evA τ) = args := by first | rfl | (simp [cGTask, cI, cF, cGOp, cGEffect, cGCertificate, cN, cGEntry, cL_cF]; done) | (repeat (first | exact rfl | refine cons_eq ?_ ?_ | exact sl_dt rfl))) (hfr : frs args := by repeat (first | exact trivial | exact fr1_eA _ | exact fr0_eA _ | exact fr1_fr (by assumption) | exact FrV.h | refine And.intro ?_ ?_)) (hr : fr1 r := by repeat (first | exact trivial | exact fr1_eA _ | exact fr0_eA _ | exact fr1_fr (by assumption) | exact FrV.h | refine And.intro ?_ ?_)) : ∃ f : Foot, LF C n o τ η f ∧ K f := ⟨_, lf_call ho hd hargs hc hfr hr, k⟩
theorem clc_XDLow {C : Cx} {n : Nat} {o : Oper} {τ : Nat → AV} {η : Nat → Ent} {c : Operand} {os : Array Operand} {ats : Array TypeId} {r F : AV} {xs : List AV} {K : Foot → Prop} (ho : o.op = .call ⟨.value c, os, ats⟩) (hc : CCl C F xs r) (hfF : Fr F) (k : K ⟨r, [], []⟩)
    (hd : InB n o.dst := by exact Nat.le_of_ble_eq_true rfl) (hF : evA τ c = F := by rfl) (hargs : os.toList.map (evA τ) = xs := by first | rfl | (simp [cGTask, cI, cF, cGOp, cGEffect, cGCertificate, cN, cGEntry, cL_cF]; done) | (repeat (first | exact rfl | refine cons_eq ?_ ?_ | exact sl_dt rfl))) (hfr : frs xs := by repeat (first | exact trivial | exact fr1_eA _ | exact fr0_eA _ | exact fr1_fr (by assumption) | exact FrV.h | refine And.intro ?_ ?_)) (hr : fr1 r := by repeat (first | exact trivial | exact fr1_eA _ | exact fr0_eA _ | exact fr1_fr (by assumption) | exact FrV.h | refine And.intro ?_ ?_)) : ∃ f : Foot, LF C n o τ η f ∧ K f := ⟨_, lf_clo ho hd hF hargs hc hfF hfr hr, k⟩
theorem clb_XDLow {C : Cx} {n : Nat} {o : Oper} {τ : Nat → AV} {η : Nat → Ent} {f : FuncId} {os : Array Operand} {ats : Array TypeId} {r : AV} {xs ys : List AV} {K : Foot → Prop} (bs : List Nat) (ho : o.op = .call ⟨.value (.func f), os, ats⟩) (hargs : os.toList.map (evA τ) = xs) (hc : ACall C f ys r) (k : K ⟨r, [], bs⟩)
    (hd : InB n o.dst := by exact Nat.le_of_ble_eq_true rfl) (hb : BWL η (dropB η bs) xs ys := by exact zb_XDLow) (hr : scal r := by repeat (first | exact trivial | exact scal0_eA _ | exact scal_eA _ | refine And.intro ?_ ?_)) : ∃ f : Foot, LF C n o τ η f ∧ K f := ⟨_, lf_callB bs ho hd hargs hb hc hr, k⟩
theorem clg_XDLow {C : Cx} {n : Nat} {o : Oper} {τ : Nat → AV} {η : Nat → Ent} {f : FuncId} {os : Array Operand} {ats : Array TypeId} {r : AV} {xs ys : List AV} {bs bs' : List (Nat × Blk)} {ks : List Nat} {K : Foot → Prop} (ρ : List (Nat × Nat)) (fz : List Nat) (go nb : List (Nat × Ent)) (r' : AV) (ho : o.op = .call ⟨.value (.func f), os, ats⟩) (hargs : os.toList.map (evA τ) = xs)
    (hc : ACallG C f ys bs ks r bs') (k : K ⟨r', go ++ nb, []⟩) (hd : InB n o.dst := by exact Nat.le_of_ble_eq_true rfl) (hok : okC ρ fz bs ks bs' (idsE go) = true := by rfl) (hgo : allUs η go := by repeat (first | exact trivial | refine And.intro rfl ?_)) (hgl : ltUs n go := by repeat (first | exact trivial | refine And.intro (Nat.le_of_ble_eq_true rfl) ?_))
    (hw : GWL η (fE bs) (lk ρ) (fun i => inB fz i = true) (fun i => inB (keys bs) i = true) xs ys := by exact zg_XDLow) (hb : GBL η (fE bs) (lk ρ) (fun i => inB fz i = true) (fun i => inB (keys bs) i = true) bs := by exact zg_XDLow)
    (hr : GW (fE bs') (updAll η (go ++ nb)) (lk (backN ρ bs')) (fun _ => False) (fun i => inB (idsE nb) i = true) r r' := by exact zg_XDLow)
    (hnb : nbOk n η (updAll η (go ++ nb)) ρ ks (fE bs') (lk (backN ρ bs')) (fun i => inB (idsE nb) i = true) bs' nb := by repeat (first | exact True.intro | rfl | exact Nat.le_of_ble_eq_true rfl | exact gb_nil rfl rfl | exact gb_take rfl ⟨rfl, rfl, rfl⟩ List.map_take FrI.h | refine gb_some ⟨rfl, rfl, rfl⟩ ?_ | refine And.intro ?_ ?_ | refine gw_ren rfl rfl rfl rfl rfl ?_ | exact gw_oren rfl rfl rfl rfl rfl | exact gw_opren rfl rfl rfl rfl rfl | exact gw_onil rfl rfl | refine gw_pren rfl rfl rfl rfl rfl | exact gw_thaw rfl rfl rfl | refine gw_tup ?_ | refine gw_ifc ?_ | exact GWL.nil | exact gwll_nil | exact gw_c | exact GW.sl | exact GW.nil | exact gwll_same rfl FrI.h | refine GWL.cons ?_ ?_ | refine gwll_cons ?_ ?_ | (refine gw_own3 rfl rfl rfl FrI.h ?_ ?_ ?_) | exact GW.fr FrV.h | exact GW.fr (by assumption) | refine gw_agg ?_ | refine gw_clo ?_ | refine gw_ptr rfl rfl rfl ?_ | (refine gw_own rfl rfl rfl ?_ FrI.h ?_ ?_) | assumption | omega | rfl | (rw [List.length_map, ← List.length_append]; assumption) | (refine gwll_same ?_ FrI.h; (simp [cGTask, cI, cF, cGOp, cGEffect, cGCertificate, cN, cGEntry, cL_cF] <;> fail)) | (rw [List.map_set]; refine gwll_set (by first | rfl | omega | simp) ?_ ?_) | refine gwll_set (by first | rfl | omega | simp) ?_ ?_ | (rw [List.map_replicate]; refine gwll_rep ?_) | refine gwll_rep ?_ | (rw [List.map_append]; refine gwll_append ?_ ?_) | refine gwll_append ?_ ?_ | (simp [cGTask, cI, cF, cGOp, cGEffect, cGCertificate, cN, cGEntry, cL_cF, take_len_map] <;> fail) | (rw [List.drop_zero, List.take_of_length_le] <;> first | rfl | (simp [cGTask, cI, cF, cGOp, cGEffect, cGCertificate, cN, cGEntry, cL_cF] <;> fail)) | (simp; omega) | (simp only [List.length_map, List.length_append, List.drop_zero, List.length_cons, List.length_nil, Nat.zero_add, Nat.add_zero] at *; omega))) : ∃ f : Foot, LF C n o τ η f ∧ K f := ⟨_, lf_callG ρ fz go nb ho hd hargs hc hok hgo hgl hw hb hr hnb, k⟩
def M_certify_bounded (a0 : Int) : Option (Bool) :=
  sel (decide (a0 ≥ (-1)))
   (some (decide (a0 ≤ 1099511627776)))
   (some false)
theorem A_certify_bounded (a0 : Int) {r1 : Bool} (h : M_certify_bounded a0 = some r1) : ACall cx 38 [.c (.int .i64 a0)] (.c (.bool r1)) := by
  refine aOf Tryz.func38 rfl (by decide) rfl (Nat.le_of_ble_eq_true rfl) ?_; intro _; unfold M_certify_bounded at h; refine aSR ?_; intro _; refine dr_XDLow ?_; refine aSR ?_; intro _; refine spl h (fun c1 h => ?_) (fun c1 h => ?_)
  · intro _; refine dr_XDLow ?_; refine aRt ?_; intro _; obtain rfl := inj1 h; exact ca_XDLow
  · intro _; refine dr_XDLow ?_; refine aRt ?_; intro _; obtain rfl := inj1 h; exact ca_XDLow
def M_s_IndexFunc_Nogood_L1 (a0 : List Nogood) (a1 : Nogood → Option Bool) : Nat → Int → Option (Int)
  | 0, _ => none
  | k7 + 1, v6 =>
    sel (decide (v6 < ((a0.map cN).length : Int)))
     (ix a0 v6 (fun y8 =>
       ob1 (a1 y8) (fun z9 =>
        sel z9
         (some v6)
         (M_s_IndexFunc_Nogood_L1 a0 a1 k7 (IntKind.i64.wrap (v6 + 1))))))
     (some (-1))
def M_s_IndexFunc_Nogood (a0 : List Nogood) (a1 : Nogood → Option Bool) : Option (Int) :=
  M_s_IndexFunc_Nogood_L1 a0 a1 ((((a0.map cN).length : Int)).toNat + 1) 0
theorem A_s_IndexFunc_Nogood (a0 : List Nogood) (a1 : Nogood → Option Bool) (Fa1 : AV) (hFa1 : Fr Fa1) (ea1 : ∃ f fs cap, Fa1 = .clo (.func f) fs cap) (ha1 : ∀ (x0 : Nogood) (y0 : Bool), a1 x0 = some y0 → CCl cx Fa1 [.agg [.sl 2 (x0.1.map cF), .c (.int .i64 x0.2)]] (.c (.bool y0))) {r1 : Int} (h : M_s_IndexFunc_Nogood a0 a1 = some r1) : ACall cx 92 [.sl 2 (a0.map cN), Fa1] (.c (.int .i64 r1)) := by
  obtain ⟨fa1, sa1, qa1, rfl⟩ := ea1; refine aOf Tryz.func92 rfl (by decide) rfl (Nat.le_of_ble_eq_true rfl) ?_; intro _; unfold M_s_IndexFunc_Nogood at h; refine aSR ?_; intro _; refine dr_XDLow ?_; refine aSq ?_; refine aSR ?_; intro _; refine dr_XDLow ?_; refine aBk ?_; refine awp_loop (α := Nat × Int) (fun x => mkS 19 [(0, .sl 2 (a0.map cN)), (1, .clo (.func fa1) sa1 qa1), (7, .c (.int .i64 ((a0.map cN).length : Int))), (8, .c (.int .i64 x.2))] []) (fun x => M_s_IndexFunc_Nogood_L1 a0 a1 x.1 x.2 = some r1) (fun x => x.1) ((((a0.map cN).length : Int)).toNat + 1, 0) h ?_ ?_
  · exact ca_XDLow
  · intro x1 h; intro _; obtain ⟨k7, m2, h⟩ := succ_of (f := fun n => M_s_IndexFunc_Nogood_L1 a0 a1 n x1.2) rfl h; replace h : M_s_IndexFunc_Nogood_L1 a0 a1 (k7 + 1) x1.2 = some r1 := h; rw [M_s_IndexFunc_Nogood_L1] at h; refine aSR ?_; intro _; refine dr_XDLow ?_; refine aSq ?_; refine aCd ?_; intro _; refine spl h (fun c3 h => ?_) (fun c3 h => ?_)
    · refine aSk ?_; refine aSq ?_; refine aBk ?_; refine aSR ?_; intro _; refine dr_XDLow ?_; refine aSR ?_; intro _; obtain ⟨y8, w4, q5, h⟩ := ix_ok h; refine Exists.intro (cN y8) (And.intro (map_at' w4) ?_); intro _; obtain ⟨z9, u6, h⟩ := ob1_ok h; refine clc_XDLow rfl (ha1 _ _ u6) hFa1 ?_; intro _; refine pr_XDLow ?_; refine dr_XDLow ?_; refine aCd ?_; intro _; refine spl h (fun c7 h => ?_) (fun c7 h => ?_)
      · refine aSR ?_; intro _; refine dr_XDLow ?_; refine aRt ?_; intro _; obtain rfl := inj1 h; exact ca_XDLow
      · refine aSk ?_; refine aRg ?_; intro _; refine dr_XDLow ?_; refine ⟨(k7, (IntKind.i64.wrap (x1.2 + 1))), h, ltS m2, ?_⟩; exact ca_XDLow
    · refine aEx ?_; refine aSR ?_; intro _; refine dr_XDLow ?_; refine aRt ?_; intro _; obtain rfl := inj1 h; exact ca_XDLow
def M_s_ContainsFunc_Nogood (a0 : List Nogood) (a1 : Nogood → Option Bool) : Option (Bool) :=
  ob1 (M_s_IndexFunc_Nogood a0 a1) (fun z1 =>
   some (decide (z1 ≥ 0)))
theorem A_s_ContainsFunc_Nogood (a0 : List Nogood) (a1 : Nogood → Option Bool) (Fa1 : AV) (hFa1 : Fr Fa1) (ea1 : ∃ f fs cap, Fa1 = .clo (.func f) fs cap) (ha1 : ∀ (x0 : Nogood) (y0 : Bool), a1 x0 = some y0 → CCl cx Fa1 [.agg [.sl 2 (x0.1.map cF), .c (.int .i64 x0.2)]] (.c (.bool y0))) {r1 : Bool} (h : M_s_ContainsFunc_Nogood a0 a1 = some r1) : ACall cx 73 [.sl 2 (a0.map cN), Fa1] (.c (.bool r1)) := by
  obtain ⟨fa1, sa1, qa1, rfl⟩ := ea1; refine aOf Tryz.func73 rfl (by decide) rfl (Nat.le_of_ble_eq_true rfl) ?_; intro _; unfold M_s_ContainsFunc_Nogood at h; refine aSR ?_; intro _; refine dr_XDLow ?_; refine aSR ?_; intro _; obtain ⟨z1, u1, h⟩ := ob1_ok h; refine cl_XDLow rfl (A_s_IndexFunc_Nogood a0 a1 (.clo (.func fa1) sa1 qa1) hFa1 ⟨_, _, _, rfl⟩ ha1 u1) ?_; intro _; refine dr_XDLow ?_; refine aRt ?_; intro _; obtain rfl := inj1 h; exact ca_XDLow
def M_p_Contains (a0 : List Fact) (a1 : List Fact) : Option (Bool) :=
  ob1 (M_p_valid a0) (fun z1 =>
   sel z1
    (ob1 (M_p_valid a1) (fun z2 =>
      sel z2
       (ob1 (M_p_contains a0 a1) (fun z3 =>
         some z3))
       (some false)))
    (some false))
theorem A_p_Contains (a0 : List Fact) (a1 : List Fact) {r1 : Bool} (h : M_p_Contains a0 a1 = some r1) : ACall cx 20 [.sl 2 (a0.map cF), .sl 2 (a1.map cF)] (.c (.bool r1)) := by
  refine aOf Tryz.func20 rfl (by decide) rfl (Nat.le_of_ble_eq_true rfl) ?_; intro _; unfold M_p_Contains at h; refine aSR ?_; intro _; refine dr_XDLow ?_; refine aSR ?_; intro _; obtain ⟨z1, u1, h⟩ := ob1_ok h; refine cl_XDLow rfl (A_p_valid a0 u1) ?_; intro _; refine spl h (fun c2 h => ?_) (fun c2 h => ?_)
  · intro _; obtain ⟨z2, u3, h⟩ := ob1_ok h; refine cl_XDLow rfl (A_p_valid a1 u3) ?_; intro _; refine spl h (fun c4 h => ?_) (fun c4 h => ?_)
    · intro _; obtain ⟨z3, u5, h⟩ := ob1_ok h; refine cl_XDLow rfl (A_p_contains a0 a1 u5) ?_; intro _; refine dr_XDLow ?_; refine aRt ?_; intro _; obtain rfl := inj1 h; exact ca_XDLow
    · intro _; refine dr_XDLow ?_; refine aRt ?_; intro _; obtain rfl := inj1 h; exact ca_XDLow
  · intro _; refine dr_XDLow ?_; refine aRt ?_; intro _; obtain rfl := inj1 h; exact ca_XDLow
def M_certify_contains_1 (b0 : List Fact) (a0 : Nogood) : Option (Bool) :=
  ob1 (M_p_Contains b0 a0.1) (fun z1 =>
   some z1)
theorem A_certify_contains_1 (b0 : List Fact) (a0 : Nogood) {r1 : Bool} (h : M_certify_contains_1 b0 a0 = some r1) : ACall cx 74 [.agg [.sl 2 (a0.1.map cF), .c (.int .i64 a0.2)], .pim [.sl 2 (b0.map cF)] 0] (.c (.bool r1)) := by
  refine aOf Tryz.func74 rfl (by decide) rfl (Nat.le_of_ble_eq_true rfl) ?_; intro _; unfold M_certify_contains_1 at h; refine aSR ?_; intro _; refine dr_XDLow ?_; refine aSR ?_; intro _; obtain ⟨z1, u1, h⟩ := ob1_ok h; refine cl_XDLow rfl (A_p_Contains b0 a0.1 u1) ?_; intro _; refine dr_XDLow ?_; refine aRt ?_; intro _; obtain rfl := inj1 h; exact ca_XDLow
def M_certify_contains (a0 : List Fact) (a1 : List Nogood) : Option (Bool) :=
  ob1 (M_s_ContainsFunc_Nogood a1 (M_certify_contains_1 a0)) (fun z1 =>
   some z1)
theorem A_certify_contains (a0 : List Fact) (a1 : List Nogood) {r1 : Bool} (h : M_certify_contains a0 a1 = some r1) : ACall cx 42 [.sl 2 (a0.map cF), .sl 2 (a1.map cN)] (.c (.bool r1)) := by
  refine aOf Tryz.func42 rfl (by decide) rfl (Nat.le_of_ble_eq_true rfl) ?_; intro _; unfold M_certify_contains at h; refine aSR ?_; intro _; refine dr_XDLow ?_; refine aSR ?_; intro _; refine ⟨_, lf_func rfl (Nat.le_of_ble_eq_true rfl) rfl rfl, ?_⟩; intro _; obtain ⟨z1, u1, h⟩ := ob1_ok h; refine clb_XDLow [2] rfl rfl (A_s_ContainsFunc_Nogood a1 (M_certify_contains_1 a0) (.clo (.func 74) [] [.pim [.sl 2 (a0.map cF)] 0]) (Fr.clo FrC_nil FrE.h) ⟨_, _, _, rfl⟩ (fun x0 y0 hx => ⟨74, [], _, rfl, A_certify_contains_1 a0 x0 hx⟩) u1) ?_; intro _; refine dr_XDLow ?_; refine aRt ?_; intro _; obtain rfl := inj1 h; exact ca_XDLow
def M_certify_Lower_L1 (g : Nat) (v843 : Int) (z845 : List (List Fact)) : Nat → Int → Int → (List GEntry) → Option ((Int × (List GEntry)) ⊕ (GCertificate × Er))
  | 0, _, _, _ => none
  | k858 + 1, v855, v856, v857 =>
    sel (decide (v856 < ((z845.map cL_cF).length : Int)))
     (ix z845 v856 (fun y859 =>
       ob1 (M_container_heap_Push g v857 ({ facts := y859, dist := v843, order := v855 : GEntry })) (fun c860 =>
        M_certify_Lower_L1 g v843 z845 k858 (IntKind.i64.wrap (v855 + 1)) (IntKind.i64.wrap (v856 + 1)) c860)))
     (some (.inl (v855, v857)))
def M_certify_Lower_L2 (a0 : GTask) (a1 : Int) (g : Nat) (z580 : GEntry) : Nat → Int → Int → (List GEntry) → Option ((Int × (List GEntry)) ⊕ (GCertificate × Er))
  | 0, _, _, _ => none
  | k817 + 1, v814, v815, v816 =>
    sel (decide (v815 < ((a0.Ops.map cGOp).length : Int)))
     (ob1 (ix a0.Ops v815 (fun y842 =>
        ob1 (sel (decide (a1 < 0))
          (some (.inl 0))
          (sel (decide ((IntKind.i64.wrap (z580.dist + y842.Cost)) ≥ a1))
            (some (.inr ()))
            (some (.inl (IntKind.i64.wrap (z580.dist + y842.Cost))))) : Option (Int ⊕ Unit))
         (osum
         (fun v843 => ob2 (M_g_Regress g a0 v815 z580.facts) (fun z845 z846 =>
            erM z846
             (M_certify_Lower_L1 g v843 z845 ((((z845.map cL_cF).length : Int)).toNat + 1) v814 0 v816)
             (fun e847 => some (.inr ({ Bound := 0, Nogoods := [] : GCertificate }, (Er.no e847))))))
         (fun _ => some (.inl (v814, v816))))) : Option ((Int × (List GEntry)) ⊕ (GCertificate × Er)))
       (osum
       (fun (v837, v838) => M_certify_Lower_L2 a0 a1 g z580 k817 v837 (IntKind.i64.wrap (v815 + 1)) v838)
       (fun (r839, r840) => some (.inr (r839, r840)))))
     (some (.inl (v814, v816)))
def M_certify_Lower_L3 (a0 : GTask) (a1 : Int) (a2 : Int) (g : Nat) : Nat → Int → (List GEntry) → (List Nogood) → Option (GCertificate × Er)
  | 0, _, _, _ => none
  | k577 + 1, v574, v575, v576 =>
    ob2 (M_stratagem_certify_entries_Len v575) (fun z578 c579 =>
     grd (c579.length = v575.length) (sel (decide (z578 > 0))
      (ob2 (M_container_heap_Pop g c579) (fun z580 c581 =>
        grd (v576.length ≤ 140737488355328) (ob1 (M_certify_contains z580.facts v576) (fun z582 =>
         sel z582
          (M_certify_Lower_L3 a0 a1 a2 g k577 v574 c581 v576)
          (ob1 (M_task_Holds z580.facts a0.Init) (fun z583 =>
            sel z583
             (some ({ Bound := 0, Nogoods := [] : GCertificate }, (Er.no 13)))
             (sel (((v576.length : Nat) : Int) == (max 0 (min a2 4096)))
               (some ({ Bound := 0, Nogoods := [] : GCertificate }, (Er.no 10)))
               (grd ((v576.length + 1) * 32 ≤ 140737488355328) (ob1 (M_certify_Lower_L2 a0 a1 g z580 ((((a0.Ops.map cGOp).length : Int)).toNat + 1) v574 0 c581 : Option ((Int × (List GEntry)) ⊕ (GCertificate × Er)))
                 (osum
                 (fun (v720, v721) => M_certify_Lower_L3 a0 a1 a2 g k577 v720 v721 (v576 ++ [(z580.facts, z580.dist)]))
                 (fun (r722, r723) => some (r722, r723))))))))))))
      (grd (v576.length ≤ 140737488355328) (some ({ Bound := a1, Nogoods := v576 : GCertificate }, Er.nil)))))
def M_certify_Lower (g : Nat) (a0 : GTask) (a1 : Int) (a2 : Int) : Option (GCertificate × Er) :=
  ob1 (M_task_Check a0) (fun z1 =>
   erM z1
    (ob1 (M_certify_bounded a1) (fun z3 =>
      sel (!z3)
       (some ({ Bound := 0, Nogoods := [] : GCertificate }, (Er.no 1)))
       (sel (a1 == 0)
         (some ({ Bound := a1, Nogoods := [] : GCertificate }, Er.nil))
         (ob1 (M_cloneF a0.Goal) (fun z4 =>
           grd (z4.length ≤ 140737488355328) (M_certify_Lower_L3 a0 a1 a2 g g 1 [{ facts := z4, dist := 0, order := 0 : GEntry }] []))))))
    (fun e2 => some ({ Bound := 0, Nogoods := [] : GCertificate }, (Er.no e2))))
theorem A_certify_Lower (g : Nat) (a0 : GTask) (a1 : Int) (a2 : Int) {r1 : GCertificate} {r2 : Er} (h : M_certify_Lower g a0 a1 a2 = some (r1, r2)) : ACall cx 13 [.agg [.sl 1 (a0.Vars.map cI), .sl 1 (a0.Init.map cI), .sl 2 (a0.Goal.map cF), .sl 4 (a0.Ops.map cGOp)], .c (.int .i64 a1), .c (.int .i64 a2)] (.tup [.agg [.c (.int .i64 r1.Bound), .sl 2 (r1.Nogoods.map cN)], eA r2]) := by
  refine aOf Tryz.func13 rfl (by decide) rfl (Nat.le_of_ble_eq_true rfl) ?_; intro _; unfold M_certify_Lower at h; refine aSR ?_; intro _; refine dr_XDLow ?_; refine aSq ?_; refine aSR ?_; intro _; obtain ⟨z1, u1, h⟩ := ob1_ok h; refine cl_XDLow rfl (A_task_Check a0 u1) ?_; intro _; refine dr_XDLow ?_; refine aSq ?_; rcases z1 with _ | e2
  · replace h := erM_nil h; refine aRg ?_; intro _; refine dr_XDLow ?_; refine aCd ?_; intro _; refine litF ?_; refine aSk ?_; refine aSq ?_; refine aSR ?_; intro _; obtain ⟨z3, u2, h⟩ := ob1_ok h; refine cl_XDLow rfl (A_certify_bounded a1 u2) ?_; intro _; refine dr_XDLow ?_; refine aCd ?_; intro _; refine spl h (fun c3 h => ?_) (fun c3 h => ?_)
    · refine aSR ?_; intro _; refine dr_XDLow ?_; refine aRt ?_; intro _; obtain ⟨rfl, rfl⟩ := inj2 h; exact ca_XDLow
    · refine aSk ?_; refine aSR ?_; intro _; refine dr_XDLow ?_; refine aSq ?_; refine aSR ?_; intro _; refine dr_XDLow ?_; refine aCd ?_; intro _; refine spl h (fun c4 h => ?_) (fun c4 h => ?_)
      · refine aSR ?_; intro _; refine dr_XDLow ?_; refine aRt ?_; intro _; obtain ⟨rfl, rfl⟩ := inj2 h; exact ca_XDLow
      · refine aSk ?_; refine aSR ?_; intro _; refine ⟨_, lf_min rfl (Nat.le_of_ble_eq_true rfl) rfl rfl, ?_⟩; intro _; refine ⟨_, lf_max rfl (Nat.le_of_ble_eq_true rfl) rfl rfl, ?_⟩; intro _; refine dr_XDLow ?_; refine aSR ?_; intro _; obtain ⟨z4, u5, h⟩ := ob1_ok h; refine clg_XDLow [(0, 42)] [] [] [(42, ⟨2, some ⟨68, 2, false, z4.map cF⟩⟩)] (.own 42 2 0 z4.length) rfl rfl (A_cloneF a0.Goal u5) ?_; intro _; refine dr_XDLow ?_; refine aSR ?_; intro _; refine dr_XDLow ?_; refine aSq ?_; refine aBk ?_; obtain ⟨q6, h⟩ := grd_ok h; refine awp_loop (α := Nat × Int × (List GEntry) × (List Nogood)) (fun x => mkS 136 [(1, .c (.int .i64 a1)), (2, .c (.int .i64 (max 0 (min a2 4096)))), (3, .ptr 3 0 0 0), (6, .ptr 6 0 0 0), (9, .ptr 9 0 0 0), (10, .ptr 45 0 0 0), (11, .c (.int .i64 x.2.1))] [(3, ⟨26, 4, true, [[.sl 1 (a0.Vars.map cI), .sl 1 (a0.Init.map cI), .sl 2 (a0.Goal.map cF), .sl 4 (a0.Ops.map cGOp)]]⟩), (6, ⟨31, 2, true, [[.c (.int .i64 0), .c (.slice none 0 0)]]⟩), (9, ⟨31, 2, true, [[.c (.int .i64 a1), .own 85 0 0 x.2.2.2.length]]⟩), (44, ⟨79, 3, false, x.2.2.1.map cGEntry⟩), (45, ⟨81, 1, true, [[.own 44 0 0 x.2.2.1.length]]⟩), (85, ⟨40, 2, false, x.2.2.2.map cN⟩)]) (fun x => M_certify_Lower_L3 a0 a1 a2 g x.1 x.2.1 x.2.2.1 x.2.2.2 = some (r1, r2)) (fun x => x.1) (g, 1, [{ facts := z4, dist := 0, order := 0 : GEntry }], []) h ?_ ?_
        · exact ca_XDLow
        · intro x7 h; intro _; obtain ⟨k577, m8, h⟩ := succ_of (f := fun n => M_certify_Lower_L3 a0 a1 a2 g n x7.2.1 x7.2.2.1 x7.2.2.2) rfl h; replace h : M_certify_Lower_L3 a0 a1 a2 g (k577 + 1) x7.2.1 x7.2.2.1 x7.2.2.2 = some (r1, r2) := h; rw [M_certify_Lower_L3] at h; refine aSq ?_; refine aSR ?_; intro _; obtain ⟨z578, c579, u9, h⟩ := ob2_ok h; refine clg_XDLow [(5, 44)] [] [] [(44, ⟨0, some ⟨79, 3, false, c579.map cGEntry⟩⟩)] (.c (.int .i64 z578)) rfl rfl (A_stratagem_certify_entries_Len x7.2.2.1 u9) ?_; obtain ⟨q10, h⟩ := grd_ok h; intro _; refine dr_XDLow ?_; refine aCd ?_; intro _; refine spl h (fun c11 h => ?_) (fun c11 h => ?_)
          · refine aSk ?_; refine aBk ?_; refine aSR ?_; intro _; obtain ⟨z580, c581, u12, h⟩ := ob2_ok h; refine clg_XDLow [(16, 45), (0, 44)] [] [(44, ⟨1, none⟩)] [(45, ⟨0, some ⟨81, 1, true, [[.own 44 2 0 c581.length]]⟩⟩), (44, ⟨2, some ⟨79, 3, false, c581.map cGEntry⟩⟩)] (.ifc 79 (.agg [.sl 2 (z580.facts.map cF), .c (.int .i64 z580.dist), .c (.int .i64 z580.order)])) rfl rfl (A_container_heap_Pop g c579 u12) ?_; intro _; refine ⟨_, lf_assert rfl (Nat.le_of_ble_eq_true rfl) rfl (fun _ _ => by kernel_rfl), ?_⟩; intro _; refine dr_XDLow ?_; refine aSq ?_; refine aSR ?_; intro _; obtain ⟨q13, h⟩ := grd_ok h; obtain ⟨z582, u14, h⟩ := ob1_ok h; refine clb_XDLow [85] rfl rfl (A_certify_contains z580.facts x7.2.2.2 u14) ?_; intro _; refine dr_XDLow ?_; refine aCd ?_; intro _; refine spl h (fun c15 h => ?_) (fun c15 h => ?_)
            · refine aEx ?_; refine ⟨(k577, x7.2.1, c581, x7.2.2.2), h, ltS m8, ?_⟩; exact ca_XDLow
            · refine aSk ?_; refine aSq ?_; refine aSR ?_; intro _; obtain ⟨z583, u16, h⟩ := ob1_ok h; refine cl_XDLow rfl (A_task_Holds z580.facts a0.Init u16) ?_; intro _; refine dr_XDLow ?_; refine aCd ?_; intro _; refine spl h (fun c17 h => ?_) (fun c17 h => ?_)
              · refine aSR ?_; intro _; refine dr_XDLow ?_; refine aRt ?_; intro _; obtain ⟨rfl, rfl⟩ := inj2 h; exact ca_XDLow
              · refine aSk ?_; refine aSq ?_; refine aSR ?_; intro _; refine dr_XDLow ?_; refine aCd ?_; intro _; refine spl h (fun c18 h => ?_) (fun c18 h => ?_)
                · refine aSR ?_; intro _; refine dr_XDLow ?_; refine aRt ?_; intro _; obtain ⟨rfl, rfl⟩ := inj2 h; exact ca_XDLow
                · refine aSk ?_; refine aSR ?_; intro _; obtain ⟨q19, h⟩ := grd_ok h; refine pl_XDLow ?_; refine pl_XDLow ?_; refine And.intro (by first | with_reducible assumption | (show (x7.2.2.2.length + 1) * 32 ≤ 140737488355328; with_reducible assumption) | omega | (simp; omega)) ?_; refine pe_XDLow ?_; refine dr_XDLow ?_; refine aSR ?_; intro _; refine dr_XDLow ?_; obtain ⟨o20, h, hK21⟩ := ob1_ok h; refine awp_cutT (α := Int × (List GEntry)) (fun (v720, v721) => mkS 136 [(1, .c (.int .i64 a1)), (2, .c (.int .i64 (max 0 (min a2 4096)))), (3, .ptr 3 0 0 0), (6, .ptr 6 0 0 0), (9, .ptr 9 0 0 0), (10, .ptr 45 0 0 0), (11, .c (.int .i64 v720))] [(3, ⟨26, 4, true, [[.sl 1 (a0.Vars.map cI), .sl 1 (a0.Init.map cI), .sl 2 (a0.Goal.map cF), .sl 4 (a0.Ops.map cGOp)]]⟩), (6, ⟨31, 2, true, [[.c (.int .i64 0), .c (.slice none 0 0)]]⟩), (9, ⟨31, 2, true, [[.c (.int .i64 a1), .own 85 0 0 (x7.2.2.2.length + 1)]]⟩), (44, ⟨79, 3, false, v721.map cGEntry⟩), (45, ⟨81, 1, true, [[.own 44 0 0 v721.length]]⟩), (85, ⟨40, 2, false, (x7.2.2.2 ++ [(z580.facts, z580.dist)]).map cN⟩)]) (fun v => o20 = (.inl v)) ?_ ?_
                  · refine aBk ?_; refine awp_loop (α := Nat × Int × Int × (List GEntry)) (fun x => mkS 136 [(1, .c (.int .i64 a1)), (2, .c (.int .i64 (max 0 (min a2 4096)))), (3, .ptr 3 0 0 0), (6, .ptr 6 0 0 0), (9, .ptr 9 0 0 0), (10, .ptr 45 0 0 0), (11, .c (.int .i64 x.2.1)), (12, .ptr 12 0 0 0), (88, .sl 4 (a0.Ops.map cGOp)), (89, .c (.int .i64 ((a0.Ops.map cGOp).length : Int))), (90, .c (.int .i64 x.2.2.1))] [(3, ⟨26, 4, true, [[.sl 1 (a0.Vars.map cI), .sl 1 (a0.Init.map cI), .sl 2 (a0.Goal.map cF), .sl 4 (a0.Ops.map cGOp)]]⟩), (6, ⟨31, 2, true, [[.c (.int .i64 0), .c (.slice none 0 0)]]⟩), (9, ⟨31, 2, true, [[.c (.int .i64 a1), .own 85 0 0 (x7.2.2.2.length + 1)]]⟩), (12, ⟨79, 3, true, [[.sl 2 (z580.facts.map cF), .c (.int .i64 z580.dist), .c (.int .i64 z580.order)]]⟩), (44, ⟨79, 3, false, x.2.2.2.map cGEntry⟩), (45, ⟨81, 1, true, [[.own 44 0 0 x.2.2.2.length]]⟩), (85, ⟨40, 2, false, (x7.2.2.2 ++ [(z580.facts, z580.dist)]).map cN⟩)]) (fun x => M_certify_Lower_L2 a0 a1 g z580 x.1 x.2.1 x.2.2.1 x.2.2.2 = some o20) (fun x => x.1) ((((a0.Ops.map cGOp).length : Int)).toNat + 1, x7.2.1, 0, c581) h ?_ ?_
                    · exact ca_XDLow
                    · intro x22 h; intro _; obtain ⟨k817, m23, h⟩ := succ_of (f := fun n => M_certify_Lower_L2 a0 a1 g z580 n x22.2.1 x22.2.2.1 x22.2.2.2) rfl h; replace h : M_certify_Lower_L2 a0 a1 g z580 (k817 + 1) x22.2.1 x22.2.2.1 x22.2.2.2 = some o20 := h; rw [M_certify_Lower_L2] at h; refine aSR ?_; intro _; refine dr_XDLow ?_; refine aSq ?_; refine aCd ?_; intro _; refine spl h (fun c24 h => ?_) (fun c24 h => ?_)
                      · refine aSk ?_; obtain ⟨o25, h, hK26⟩ := ob1_ok h; refine awp_cut (α := Int × (List GEntry)) (fun (v837, v838) => mkS 136 [(1, .c (.int .i64 a1)), (2, .c (.int .i64 (max 0 (min a2 4096)))), (3, .ptr 3 0 0 0), (6, .ptr 6 0 0 0), (9, .ptr 9 0 0 0), (10, .ptr 45 0 0 0), (11, .c (.int .i64 v837)), (12, .ptr 12 0 0 0), (88, .sl 4 (a0.Ops.map cGOp)), (89, .c (.int .i64 ((a0.Ops.map cGOp).length : Int))), (90, .c (.int .i64 x22.2.2.1))] [(3, ⟨26, 4, true, [[.sl 1 (a0.Vars.map cI), .sl 1 (a0.Init.map cI), .sl 2 (a0.Goal.map cF), .sl 4 (a0.Ops.map cGOp)]]⟩), (6, ⟨31, 2, true, [[.c (.int .i64 0), .c (.slice none 0 0)]]⟩), (9, ⟨31, 2, true, [[.c (.int .i64 a1), .own 85 0 0 (x7.2.2.2.length + 1)]]⟩), (12, ⟨79, 3, true, [[.sl 2 (z580.facts.map cF), .c (.int .i64 z580.dist), .c (.int .i64 z580.order)]]⟩), (44, ⟨79, 3, false, v838.map cGEntry⟩), (45, ⟨81, 1, true, [[.own 44 0 0 v838.length]]⟩), (85, ⟨40, 2, false, (x7.2.2.2 ++ [(z580.facts, z580.dist)]).map cN⟩)]) (fun v => o25 = (.inl v)) ?_ ?_
                        · refine aBk ?_; refine aSR ?_; intro _; obtain ⟨y842, w27, q28, h⟩ := ix_ok h; refine Exists.intro (cGOp y842) (And.intro (map_at' w27) ?_); intro _; refine pr_XDLow ?_; refine dr_XDLow ?_; refine aSR ?_; intro _; refine dr_XDLow ?_; obtain ⟨o29, h, hK30⟩ := ob1_ok h; refine awp_cut (α := Int) (fun v843 => mkS 136 [(1, .c (.int .i64 a1)), (2, .c (.int .i64 (max 0 (min a2 4096)))), (3, .ptr 3 0 0 0), (6, .ptr 6 0 0 0), (9, .ptr 9 0 0 0), (10, .ptr 45 0 0 0), (11, .c (.int .i64 x22.2.1)), (12, .ptr 12 0 0 0), (14, .c (.int .i64 x22.2.2.1)), (16, .c (.int .i64 v843)), (88, .sl 4 (a0.Ops.map cGOp)), (89, .c (.int .i64 ((a0.Ops.map cGOp).length : Int))), (90, .c (.int .i64 x22.2.2.1))] [(3, ⟨26, 4, true, [[.sl 1 (a0.Vars.map cI), .sl 1 (a0.Init.map cI), .sl 2 (a0.Goal.map cF), .sl 4 (a0.Ops.map cGOp)]]⟩), (6, ⟨31, 2, true, [[.c (.int .i64 0), .c (.slice none 0 0)]]⟩), (9, ⟨31, 2, true, [[.c (.int .i64 a1), .own 85 0 0 (x7.2.2.2.length + 1)]]⟩), (12, ⟨79, 3, true, [[.sl 2 (z580.facts.map cF), .c (.int .i64 z580.dist), .c (.int .i64 z580.order)]]⟩), (44, ⟨79, 3, false, x22.2.2.2.map cGEntry⟩), (45, ⟨81, 1, true, [[.own 44 0 0 x22.2.2.2.length]]⟩), (85, ⟨40, 2, false, (x7.2.2.2 ++ [(z580.facts, z580.dist)]).map cN⟩)]) (fun v => o29 = (.inl v)) ?_ ?_
                          · refine aSR ?_; intro _; refine dr_XDLow ?_; refine aCd ?_; intro _; refine spl h (fun c31 h => ?_) (fun c31 h => ?_)
                            · refine aRg ?_; intro _; refine dr_XDLow ?_; refine ⟨0, (Option.some.inj h).symm, ?_⟩; exact ca_XDLow
                            · refine aSR ?_; intro _; refine dr_XDLow ?_; refine aCd ?_; intro _; refine spl h (fun c32 h => ?_) (fun c32 h => ?_)
                              · refine aEx ?_; have j33 := Option.some.inj h; subst j33; replace h := (osum_r hK30); refine ⟨(x22.2.1, x22.2.2.2), (Option.some.inj h).symm, ?_⟩; exact ca_XDLow
                              · refine aSk ?_; refine ⟨(IntKind.i64.wrap (z580.dist + y842.Cost)), (Option.some.inj h).symm, ?_⟩; exact ca_XDLow
                          · rintro v843 ho; have ho := ho.symm; subst ho; intro _; replace h := (osum_l hK30); refine aSR ?_; intro _; obtain ⟨z845, z846, u34, h⟩ := ob2_ok h; refine cl_XDLow rfl (A_g_Regress g a0 x22.2.2.1 z580.facts u34) ?_; intro _; refine dr_XDLow ?_; refine aSq ?_; refine aSq ?_; rcases z846 with _ | e847
                            · replace h := erM_nil h; refine aRg ?_; intro _; refine dr_XDLow ?_; refine aCd ?_; intro _; refine litF ?_; refine aSk ?_; refine aSR ?_; intro _; refine dr_XDLow ?_; refine aBk ?_; refine awp_loop (α := Nat × Int × Int × (List GEntry)) (fun x => mkS 136 [(1, .c (.int .i64 a1)), (2, .c (.int .i64 (max 0 (min a2 4096)))), (3, .ptr 3 0 0 0), (6, .ptr 6 0 0 0), (9, .ptr 9 0 0 0), (10, .ptr 45 0 0 0), (11, .c (.int .i64 x.2.1)), (12, .ptr 12 0 0 0), (16, .c (.int .i64 v843)), (88, .sl 4 (a0.Ops.map cGOp)), (89, .c (.int .i64 ((a0.Ops.map cGOp).length : Int))), (90, .c (.int .i64 x22.2.2.1)), (117, .sl 1 (z845.map cL_cF)), (118, .c (.int .i64 ((z845.map cL_cF).length : Int))), (119, .c (.int .i64 x.2.2.1))] [(3, ⟨26, 4, true, [[.sl 1 (a0.Vars.map cI), .sl 1 (a0.Init.map cI), .sl 2 (a0.Goal.map cF), .sl 4 (a0.Ops.map cGOp)]]⟩), (6, ⟨31, 2, true, [[.c (.int .i64 0), .c (.slice none 0 0)]]⟩), (9, ⟨31, 2, true, [[.c (.int .i64 a1), .own 85 0 0 (x7.2.2.2.length + 1)]]⟩), (12, ⟨79, 3, true, [[.sl 2 (z580.facts.map cF), .c (.int .i64 z580.dist), .c (.int .i64 z580.order)]]⟩), (44, ⟨79, 3, false, x.2.2.2.map cGEntry⟩), (45, ⟨81, 1, true, [[.own 44 0 0 x.2.2.2.length]]⟩), (85, ⟨40, 2, false, (x7.2.2.2 ++ [(z580.facts, z580.dist)]).map cN⟩)]) (fun x => M_certify_Lower_L1 g v843 z845 x.1 x.2.1 x.2.2.1 x.2.2.2 = some o25) (fun x => x.1) ((((z845.map cL_cF).length : Int)).toNat + 1, x22.2.1, 0, x22.2.2.2) h ?_ ?_
                              · exact ca_XDLow
                              · intro x35 h; intro _; obtain ⟨k858, m36, h⟩ := succ_of (f := fun n => M_certify_Lower_L1 g v843 z845 n x35.2.1 x35.2.2.1 x35.2.2.2) rfl h; replace h : M_certify_Lower_L1 g v843 z845 (k858 + 1) x35.2.1 x35.2.2.1 x35.2.2.2 = some o25 := h; rw [M_certify_Lower_L1] at h; refine aSR ?_; intro _; refine dr_XDLow ?_; refine aSq ?_; refine aCd ?_; intro _; refine spl h (fun c37 h => ?_) (fun c37 h => ?_)
                                · refine aSk ?_; refine aSq ?_; refine aBk ?_; refine aSR ?_; intro _; obtain ⟨y859, w38, q39, h⟩ := ix_ok h; refine Exists.intro (cL_cF y859) (And.intro (map_at' w38) ?_); intro _; refine pr_XDLow ?_; refine dr_XDLow ?_; refine aSR ?_; intro _; obtain ⟨c860, u40, h⟩ := ob1_ok h; refine clg_XDLow [(14, 45), (0, 44)] [] [(44, ⟨1, none⟩)] [(45, ⟨0, some ⟨81, 1, true, [[.own 44 2 0 c860.length]]⟩⟩), (44, ⟨2, some ⟨79, 3, false, c860.map cGEntry⟩⟩)] (.tup []) rfl rfl (A_container_heap_Push g x35.2.2.2 ({ facts := y859, dist := v843, order := x35.2.1 : GEntry }) u40) ?_; intro _; refine dr_XDLow ?_; refine aRg ?_; intro _; refine dr_XDLow ?_; refine aRg ?_; intro _; refine dr_XDLow ?_; refine ⟨(k858, (IntKind.i64.wrap (x35.2.1 + 1)), (IntKind.i64.wrap (x35.2.2.1 + 1)), c860), h, ltS m36, ?_⟩; exact ca_XDLow
                                · refine aEx ?_; refine ⟨(x35.2.1, x35.2.2.2), (Option.some.inj h).symm, ?_⟩; exact ca_XDLow
                            · replace h := erM_no h; refine aRg ?_; intro _; refine dr_XDLow ?_; refine aCd ?_; intro _; refine litT ?_; refine aSR ?_; intro _; refine dr_XDLow ?_; refine aRt ?_; have j41 := Option.some.inj h; subst j41; replace h := (osum_r hK26); have j42 := Option.some.inj h; subst j42; replace h := (osum_r hK21); intro _; obtain ⟨rfl, rfl⟩ := inj2 h; exact ca_XDLow
                        · rintro ⟨v837, v838⟩ ho; have ho := ho.symm; subst ho; intro _; replace h := (osum_l hK26); refine aRg ?_; intro _; refine dr_XDLow ?_; refine ⟨(k817, v837, (IntKind.i64.wrap (x22.2.2.1 + 1)), v838), h, ltS m23, ?_⟩; exact ca_XDLow
                      · refine aEx ?_; refine ⟨(x22.2.1, x22.2.2.2), (Option.some.inj h).symm, ?_⟩; exact ca_XDLow
                  · rintro ⟨v720, v721⟩ ho; have ho := ho.symm; subst ho; intro _; replace h := (osum_l hK21); refine ⟨(k577, v720, v721, (x7.2.2.2 ++ [(z580.facts, z580.dist)])), h, ltS m8, ?_⟩; exact ca_XDLow
          · refine aEx ?_; refine aSR ?_; intro _; refine dr_XDLow ?_; refine aRt ?_; obtain ⟨q43, h⟩ := grd_ok h; intro _; obtain ⟨rfl, rfl⟩ := inj2 h; exact ca_XDLow
  · replace h := erM_no h; refine aRg ?_; intro _; refine dr_XDLow ?_; refine aCd ?_; intro _; refine litT ?_; refine aSR ?_; intro _; refine dr_XDLow ?_; refine aRt ?_; intro _; obtain ⟨rfl, rfl⟩ := inj2 h; exact ca_XDLow
def M_b_Facts_L1 (a0 : List Fact) (a1 : List Fact) : Nat → Int → Option (Bool)
  | 0, _ => none
  | k7 + 1, v6 =>
    sel (decide (v6 < ((a0.map cF).length : Int)))
     (ix a0 v6 (fun y8 =>
       ix a1 v6 (fun y9 =>
        sel (!(y8.1 == y9.1 && y8.2 == y9.2))
         (some false)
         (M_b_Facts_L1 a0 a1 k7 (IntKind.i64.wrap (v6 + 1))))))
     (some true)
def M_b_Facts (a0 : List Fact) (a1 : List Fact) : Option (Bool) :=
  sel (((a0.map cF).length : Int) != ((a1.map cF).length : Int))
   (some false)
   (M_b_Facts_L1 a0 a1 ((((a0.map cF).length : Int)).toNat + 1) 0)
theorem A_b_Facts (a0 : List Fact) (a1 : List Fact) {r1 : Bool} (h : M_b_Facts a0 a1 = some r1) : ACall cx 36 [.sl 2 (a0.map cF), .sl 2 (a1.map cF)] (.c (.bool r1)) := by
  refine aOf Tryz.func36 rfl (by decide) rfl (Nat.le_of_ble_eq_true rfl) ?_; intro _; unfold M_b_Facts at h; refine aSR ?_; intro _; refine dr_XDLow ?_; refine aSq ?_; refine aSR ?_; intro _; refine dr_XDLow ?_; refine aCd ?_; intro _; refine spl h (fun c1 h => ?_) (fun c1 h => ?_)
  · refine aSR ?_; intro _; refine dr_XDLow ?_; refine aRt ?_; intro _; obtain rfl := inj1 h; exact ca_XDLow
  · refine aSk ?_; refine aSq ?_; refine aSR ?_; intro _; refine dr_XDLow ?_; refine aBk ?_; refine awp_loop (α := Nat × Int) (fun x => mkS 26 [(0, .sl 2 (a0.map cF)), (1, .sl 2 (a1.map cF)), (12, .c (.int .i64 ((a0.map cF).length : Int))), (13, .c (.int .i64 x.2))] []) (fun x => M_b_Facts_L1 a0 a1 x.1 x.2 = some r1) (fun x => x.1) ((((a0.map cF).length : Int)).toNat + 1, 0) h ?_ ?_
    · exact ca_XDLow
    · intro x2 h; intro _; obtain ⟨k7, m3, h⟩ := succ_of (f := fun n => M_b_Facts_L1 a0 a1 n x2.2) rfl h; replace h : M_b_Facts_L1 a0 a1 (k7 + 1) x2.2 = some r1 := h; rw [M_b_Facts_L1] at h; refine aSR ?_; intro _; refine dr_XDLow ?_; refine aSq ?_; refine aCd ?_; intro _; refine spl h (fun c4 h => ?_) (fun c4 h => ?_)
      · refine aSk ?_; refine aSq ?_; refine aBk ?_; refine aSR ?_; intro _; refine dr_XDLow ?_; refine aSR ?_; intro _; obtain ⟨y8, w5, q6, h⟩ := ix_ok h; refine Exists.intro (cF y8) (And.intro (map_at' w5) ?_); intro _; obtain ⟨y9, w7, q8, h⟩ := ix_ok h; refine Exists.intro (cF y9) (And.intro (map_at' w7) ?_); intro _; refine ⟨_, lf_eq2 rfl (Nat.le_of_ble_eq_true rfl) rfl rfl (eqFact _ _ _ _) (eqFactG _ _ _ _ _ _ _) (.inr ⟨rfl, rfl⟩), ?_⟩; intro _; refine pr_XDLow ?_; refine pr_XDLow ?_; refine dr_XDLow ?_; refine aCd ?_; intro _; refine spl h (fun c9 h => ?_) (fun c9 h => ?_)
        · refine aSR ?_; intro _; refine dr_XDLow ?_; refine aRt ?_; intro _; obtain rfl := inj1 h; exact ca_XDLow
        · refine aSk ?_; refine aRg ?_; intro _; refine dr_XDLow ?_; refine ⟨(k7, (IntKind.i64.wrap (x2.2 + 1))), h, ltS m3, ?_⟩; exact ca_XDLow
      · refine aEx ?_; refine aSR ?_; intro _; refine dr_XDLow ?_; refine aRt ?_; intro _; obtain rfl := inj1 h; exact ca_XDLow
def M_l32_awake (g : Nat) : Option (Bool) :=
  ob2 (M_certify_Lower g ({ Vars := [2], Init := [0], Goal := [(0, 1)], Ops := [{ Name := (⟨#[]⟩ : ByteArray), Cost := 2, Pre := [], Effs := [{ When := [], Var := 0, Val := 1 : GEffect }] : GOp }] : GTask }) 2 10) (fun z1 z2 =>
   ob2 (M_certify_Lower g ({ Vars := [2], Init := [0], Goal := [(0, 1)], Ops := [{ Name := (⟨#[]⟩ : ByteArray), Cost := 2, Pre := [], Effs := [{ When := [], Var := 0, Val := 1 : GEffect }] : GOp }] : GTask }) 3 10) (fun _ z4 =>
    erM z2
     (sel (z1.Bound == 2)
       (sel (((z1.Nogoods.map cN).length : Int) == 1)
         (ix z1.Nogoods 0 (fun y6 =>
           ob1 (M_b_Facts y6.1 [(0, 1)]) (fun z7 =>
            sel z7
             (ob1 (M_b_Is z4 13) (fun z8 =>
               some z8))
             (some false))))
         (some false))
       (some false))
     (fun _ => some false)))
theorem A_l32_awake (g : Nat) {r1 : Bool} (h : M_l32_awake g = some r1) : ACall cx 12 [] (.c (.bool r1)) := by
  refine aOf Tryz.func12 rfl (by decide) rfl (Nat.le_of_ble_eq_true rfl) ?_; intro _; unfold M_l32_awake at h; refine aSR ?_; intro _; refine dr_XDLow ?_; refine aSR ?_; intro _; refine dr_XDLow ?_; refine aSR ?_; intro _; refine dr_XDLow ?_; refine aSq ?_; refine awp_wk (mkS 53 [(1, .sl 2 ([(0, 1)].map cF)), (2, .ptr 2 0 0 0)] [(2, ⟨26, 4, true, [[.sl 1 ([2].map cI), .sl 1 ([0].map cI), .sl 2 ([(0, 1)].map cF), .sl 4 ([{ Name := (⟨#[]⟩ : ByteArray), Cost := 2, Pre := [], Effs := [{ When := [], Var := 0, Val := 1 : GEffect }] : GOp }].map cGOp)]]⟩)]) ?_ ?_
  · exact ca_XDLow
  · intro _; refine aRg ?_; intro _; obtain ⟨z1, z2, u1, h⟩ := ob2_ok h; refine cl_XDLow rfl (A_certify_Lower g ({ Vars := [2], Init := [0], Goal := [(0, 1)], Ops := [{ Name := (⟨#[]⟩ : ByteArray), Cost := 2, Pre := [], Effs := [{ When := [], Var := 0, Val := 1 : GEffect }] : GOp }] : GTask }) 2 10 u1) ?_; intro _; refine dr_XDLow ?_; refine aSR ?_; intro _; obtain ⟨z3, z4, u2, h⟩ := ob2_ok h; refine cl_XDLow rfl (A_certify_Lower g ({ Vars := [2], Init := [0], Goal := [(0, 1)], Ops := [{ Name := (⟨#[]⟩ : ByteArray), Cost := 2, Pre := [], Effs := [{ When := [], Var := 0, Val := 1 : GEffect }] : GOp }] : GTask }) 3 10 u2) ?_; intro _; refine dr_XDLow ?_; refine aSq ?_; rcases z2 with _ | e5
    · replace h := erM_nil h; refine aRg ?_; intro _; refine litT ?_; intro _; refine spl h (fun c3 h => ?_) (fun c3 h => ?_)
      · intro _; refine spl h (fun c4 h => ?_) (fun c4 h => ?_)
        · intro _; obtain ⟨y6, w5, q6, h⟩ := ix_ok h; refine Exists.intro (cN y6) (And.intro (map_at' w5) ?_); intro _; obtain ⟨z7, u7, h⟩ := ob1_ok h; refine cl_XDLow rfl (A_b_Facts y6.1 [(0, 1)] u7) ?_; intro _; refine spl h (fun c8 h => ?_) (fun c8 h => ?_)
          · intro _; obtain ⟨z8, u9, h⟩ := ob1_ok h; refine cl_XDLow rfl (A_b_Is z4 13 u9) ?_; intro _; refine pr_XDLow ?_; refine dr_XDLow ?_; refine aRt ?_; intro _; obtain rfl := inj1 h; exact ca_XDLow
          · intro _; refine pr_XDLow ?_; refine dr_XDLow ?_; refine aRt ?_; intro _; obtain rfl := inj1 h; exact ca_XDLow
        · intro _; refine dr_XDLow ?_; refine aRt ?_; intro _; obtain rfl := inj1 h; exact ca_XDLow
      · intro _; refine dr_XDLow ?_; refine aRt ?_; intro _; obtain rfl := inj1 h; exact ca_XDLow
    · replace h := erM_no h; refine aRg ?_; intro _; refine litF ?_; intro _; refine dr_XDLow ?_; refine aRt ?_; intro _; obtain rfl := inj1 h; exact ca_XDLow
end Go.Proofs.YtohjegemooakpaaGreat.Am
/- Models printed by my decompiler, and the proofs that the code computes them. -/
namespace Go.Proofs.YtohjegemooakpaaGreat.Am
set_option maxHeartbeats 16000000
set_option maxRecDepth 100000
open Go.RowKit
structure GTable where
  Pattern : List Int
  Values : List Int
  Bound : Int
  deriving DecidableEq
def cGTable (x : GTable) : List AV := [.sl 1 (x.Pattern.map cI), .sl 1 (x.Values.map cI), .c (.int .i64 x.Bound)]
theorem fr_cGTable (x : GTable) : ∀ y ∈ cGTable x, Fr y := FrC_cons (.sl (frl_cI _)) (FrC_cons (.sl (frl_cI _)) (FrC_cons (.c _) (FrC_nil)))
theorem frl_cGTable (l : List GTable) : FrL (l.map cGTable) := FrL_map (fun x _ => fr_cGTable x)
instance {l : List GTable} : FrI (l.map cGTable) := ⟨frl_cGTable l⟩
theorem zb_XDTab {P : Prop} (h : P := by repeat (first | exact BWL.nil | exact bwll_nil | exact bw_c | exact BW.sl | exact BW.nil | exact bwll_same rfl FrI.h | refine BWL.cons ?_ ?_ | refine bwll_cons ?_ ?_ | (refine bw_own3 rfl rfl rfl FrI.h ?_ ?_ ?_) | exact BW.fr FrV.h | exact BW.fr (by assumption) | refine bw_agg ?_ | refine bw_clo ?_ | refine bw_ptr rfl rfl rfl ?_ | (refine bw_own rfl rfl rfl ?_ FrI.h ?_ ?_) | assumption | omega | rfl | (rw [List.length_map, ← List.length_append]; assumption) | (refine bwll_same ?_ FrI.h; (simp [cGTask, cI, cF, cGOp, cGEffect, cGTable, cGCertificate, cN, cL_cI] <;> fail)) | (rw [List.map_set]; refine bwll_set (by first | rfl | omega | simp) ?_ ?_) | refine bwll_set (by first | rfl | omega | simp) ?_ ?_ | (rw [List.map_replicate]; refine bwll_rep ?_) | refine bwll_rep ?_ | (rw [List.map_append]; refine bwll_append ?_ ?_) | refine bwll_append ?_ ?_ | (simp [cGTask, cI, cF, cGOp, cGEffect, cGTable, cGCertificate, cN, cL_cI, take_len_map] <;> fail) | (rw [List.drop_zero, List.take_of_length_le] <;> first | rfl | (simp [cGTask, cI, cF, cGOp, cGEffect, cGTable, cGCertificate, cN, cL_cI] <;> fail)) | (simp; omega) | (simp only [List.length_map, List.length_append, List.drop_zero, List.length_cons, List.length_nil, Nat.zero_add, Nat.add_zero] at *; omega))) : P := h
theorem ci_XDTab {p K : Prop} (k : K) (h : p := by first | rfl | exact ⟨rfl, rfl⟩ | exact BW.fr FrV.h | (refine BW.fr ?_; assumption) | (refine ⟨rfl, ?_⟩; (simp [cGTask, cI, cF, cGOp, cGEffect, cGTable, cGCertificate, cN, cL_cI, take_len_map]; done)) | (refine RowK.same ?_ FrI.h; first | rfl | (simp [cGTask, cI, cF, cGOp, cGEffect, cGTable, cGCertificate, cN, cL_cI, take_len_map]; done)) | (refine row_part1 ?_; (exact zb_XDTab); done) | ((exact zb_XDTab); done) | (simp [cGTask, cI, cF, cGOp, cGEffect, cGTable, cGCertificate, cN, cL_cI, take_len_map]; done)) : p ∧ K := ⟨h, k⟩
theorem ca_XDTab {P : Prop} (h : P := by repeat (first | exact True.intro | refine ci_XDTab ?_)) : P := h
theorem pr_XDTab {p K : Prop} (k : K) (h : p := by first | assumption | exact Int.natCast_nonneg _ | exact Nat.le_refl _ | exact Nat.zero_le _ | omega | (simp; done) | (simp; omega)) : p ∧ K := ⟨h, k⟩
theorem pl_XDTab {p K : Prop} (k : K) (h : p := by first | rfl | exact List.length_map _ | (simp; done) | (simp; omega)) : p ∧ K := ⟨h, k⟩
theorem pe_XDTab {p K : Prop} (k : K) (h : p := by first | omega | (simp; omega) | (simp only [List.length_map, List.length_cons, List.length_nil, List.length_append]; omega) | (simp only [List.length_map, List.drop_zero, List.length_cons, List.length_nil, Nat.zero_add, Nat.add_zero] at *; omega)) : p ∧ K := ⟨h, k⟩
theorem dr_XDTab {b : Bool} {p K : Prop} (k : K) (h : b = true → p := by intro h; first | (cases h; done) | exact ⟨by kernel_rfl, by kernel_rfl⟩) : (b = true → p) ∧ K := ⟨h, k⟩
theorem cl_XDTab {C : Cx} {n : Nat} {o : Oper} {τ : Nat → AV} {η : Nat → Ent} {f : FuncId} {os : Array Operand} {ats : Array TypeId} {r : AV} {args : List AV} {K : Foot → Prop} (ho : o.op = .call ⟨.value (.func f), os, ats⟩) (hc : ACall C f args r) (k : K ⟨r, [], []⟩)
    (hd : InB n o.dst := by exact Nat.le_of_ble_eq_true rfl) (hargs : os.toList.map (evA τ) = args := by first | rfl | (simp [cGTask, cI, cF, cGOp, cGEffect, cGTable, cGCertificate, cN, cL_cI]; done) | (repeat (first | exact rfl | refine cons_eq ?_ ?_ | exact sl_dt rfl))) (hfr : frs args := by repeat (first | exact trivial | exact fr1_eA _ | exact fr0_eA _ | exact fr1_fr (by assumption) | exact FrV.h | refine And.intro ?_ ?_)) (hr : fr1 r := by repeat (first | exact trivial | exact fr1_eA _ | exact fr0_eA _ | exact fr1_fr (by assumption) | exact FrV.h | refine And.intro ?_ ?_)) : ∃ f : Foot, LF C n o τ η f ∧ K f := ⟨_, lf_call ho hd hargs hc hfr hr, k⟩
theorem clc_XDTab {C : Cx} {n : Nat} {o : Oper} {τ : Nat → AV} {η : Nat → Ent} {c : Operand} {os : Array Operand} {ats : Array TypeId} {r F : AV} {xs : List AV} {K : Foot → Prop} (ho : o.op = .call ⟨.value c, os, ats⟩) (hc : CCl C F xs r) (hfF : Fr F) (k : K ⟨r, [], []⟩)
    (hd : InB n o.dst := by exact Nat.le_of_ble_eq_true rfl) (hF : evA τ c = F := by rfl) (hargs : os.toList.map (evA τ) = xs := by first | rfl | (simp [cGTask, cI, cF, cGOp, cGEffect, cGTable, cGCertificate, cN, cL_cI]; done) | (repeat (first | exact rfl | refine cons_eq ?_ ?_ | exact sl_dt rfl))) (hfr : frs xs := by repeat (first | exact trivial | exact fr1_eA _ | exact fr0_eA _ | exact fr1_fr (by assumption) | exact FrV.h | refine And.intro ?_ ?_)) (hr : fr1 r := by repeat (first | exact trivial | exact fr1_eA _ | exact fr0_eA _ | exact fr1_fr (by assumption) | exact FrV.h | refine And.intro ?_ ?_)) : ∃ f : Foot, LF C n o τ η f ∧ K f := ⟨_, lf_clo ho hd hF hargs hc hfF hfr hr, k⟩
theorem clb_XDTab {C : Cx} {n : Nat} {o : Oper} {τ : Nat → AV} {η : Nat → Ent} {f : FuncId} {os : Array Operand} {ats : Array TypeId} {r : AV} {xs ys : List AV} {K : Foot → Prop} (bs : List Nat) (ho : o.op = .call ⟨.value (.func f), os, ats⟩) (hargs : os.toList.map (evA τ) = xs) (hc : ACall C f ys r) (k : K ⟨r, [], bs⟩)
    (hd : InB n o.dst := by exact Nat.le_of_ble_eq_true rfl) (hb : BWL η (dropB η bs) xs ys := by exact zb_XDTab) (hr : scal r := by repeat (first | exact trivial | exact scal0_eA _ | exact scal_eA _ | refine And.intro ?_ ?_)) : ∃ f : Foot, LF C n o τ η f ∧ K f := ⟨_, lf_callB bs ho hd hargs hb hc hr, k⟩
def M_s_IndexFunc_int_L1 (a0 : List Int) (a1 : Int → Option Bool) : Nat → Int → Option (Int)
  | 0, _ => none
  | k7 + 1, v6 =>
    sel (decide (v6 < ((a0.map cI).length : Int)))
     (ix a0 v6 (fun y8 =>
       ob1 (a1 y8) (fun z9 =>
        sel z9
         (some v6)
         (M_s_IndexFunc_int_L1 a0 a1 k7 (IntKind.i64.wrap (v6 + 1))))))
     (some (-1))
def M_s_IndexFunc_int (a0 : List Int) (a1 : Int → Option Bool) : Option (Int) :=
  M_s_IndexFunc_int_L1 a0 a1 ((((a0.map cI).length : Int)).toNat + 1) 0
theorem A_s_IndexFunc_int (a0 : List Int) (a1 : Int → Option Bool) (Fa1 : AV) (hFa1 : Fr Fa1) (ea1 : ∃ f fs cap, Fa1 = .clo (.func f) fs cap) (ha1 : ∀ (x0 : Int) (y0 : Bool), a1 x0 = some y0 → CCl cx Fa1 [.c (.int .i64 x0)] (.c (.bool y0))) {r1 : Int} (h : M_s_IndexFunc_int a0 a1 = some r1) : ACall cx 82 [.sl 1 (a0.map cI), Fa1] (.c (.int .i64 r1)) := by
  obtain ⟨fa1, sa1, qa1, rfl⟩ := ea1; refine aOf Tryz.func82 rfl (by decide) rfl (Nat.le_of_ble_eq_true rfl) ?_; intro _; unfold M_s_IndexFunc_int at h; refine aSR ?_; intro _; refine dr_XDTab ?_; refine aSq ?_; refine aSR ?_; intro _; refine dr_XDTab ?_; refine aBk ?_; refine awp_loop (α := Nat × Int) (fun x => mkS 19 [(0, .sl 1 (a0.map cI)), (1, .clo (.func fa1) sa1 qa1), (7, .c (.int .i64 ((a0.map cI).length : Int))), (8, .c (.int .i64 x.2))] []) (fun x => M_s_IndexFunc_int_L1 a0 a1 x.1 x.2 = some r1) (fun x => x.1) ((((a0.map cI).length : Int)).toNat + 1, 0) h ?_ ?_
  · exact ca_XDTab
  · intro x1 h; intro _; obtain ⟨k7, m2, h⟩ := succ_of (f := fun n => M_s_IndexFunc_int_L1 a0 a1 n x1.2) rfl h; replace h : M_s_IndexFunc_int_L1 a0 a1 (k7 + 1) x1.2 = some r1 := h; rw [M_s_IndexFunc_int_L1] at h; refine aSR ?_; intro _; refine dr_XDTab ?_; refine aSq ?_; refine aCd ?_; intro _; refine spl h (fun c3 h => ?_) (fun c3 h => ?_)
    · refine aSk ?_; refine aSq ?_; refine aBk ?_; refine aSR ?_; intro _; refine dr_XDTab ?_; refine aSR ?_; intro _; obtain ⟨y8, w4, q5, h⟩ := ix_ok h; refine Exists.intro (cI y8) (And.intro (map_at' w4) ?_); intro _; obtain ⟨z9, u6, h⟩ := ob1_ok h; refine clc_XDTab rfl (ha1 _ _ u6) hFa1 ?_; intro _; refine pr_XDTab ?_; refine dr_XDTab ?_; refine aCd ?_; intro _; refine spl h (fun c7 h => ?_) (fun c7 h => ?_)
      · refine aSR ?_; intro _; refine dr_XDTab ?_; refine aRt ?_; intro _; obtain rfl := inj1 h; exact ca_XDTab
      · refine aSk ?_; refine aRg ?_; intro _; refine dr_XDTab ?_; refine ⟨(k7, (IntKind.i64.wrap (x1.2 + 1))), h, ltS m2, ?_⟩; exact ca_XDTab
    · refine aEx ?_; refine aSR ?_; intro _; refine dr_XDTab ?_; refine aRt ?_; intro _; obtain rfl := inj1 h; exact ca_XDTab
def M_s_ContainsFunc_int (a0 : List Int) (a1 : Int → Option Bool) : Option (Bool) :=
  ob1 (M_s_IndexFunc_int a0 a1) (fun z1 =>
   some (decide (z1 ≥ 0)))
theorem A_s_ContainsFunc_int (a0 : List Int) (a1 : Int → Option Bool) (Fa1 : AV) (hFa1 : Fr Fa1) (ea1 : ∃ f fs cap, Fa1 = .clo (.func f) fs cap) (ha1 : ∀ (x0 : Int) (y0 : Bool), a1 x0 = some y0 → CCl cx Fa1 [.c (.int .i64 x0)] (.c (.bool y0))) {r1 : Bool} (h : M_s_ContainsFunc_int a0 a1 = some r1) : ACall cx 50 [.sl 1 (a0.map cI), Fa1] (.c (.bool r1)) := by
  obtain ⟨fa1, sa1, qa1, rfl⟩ := ea1; refine aOf Tryz.func50 rfl (by decide) rfl (Nat.le_of_ble_eq_true rfl) ?_; intro _; unfold M_s_ContainsFunc_int at h; refine aSR ?_; intro _; refine dr_XDTab ?_; refine aSR ?_; intro _; obtain ⟨z1, u1, h⟩ := ob1_ok h; refine cl_XDTab rfl (A_s_IndexFunc_int a0 a1 (.clo (.func fa1) sa1 qa1) hFa1 ⟨_, _, _, rfl⟩ ha1 u1) ?_; intro _; refine dr_XDTab ?_; refine aRt ?_; intro _; obtain rfl := inj1 h; exact ca_XDTab
def M_certify_FromTable_1 (a0 : Int) : Option (Bool) :=
  sel (decide (a0 < 0))
   (some true)
   (some (decide (a0 > 1125899906842624)))
theorem A_certify_FromTable_1 (a0 : Int) {r1 : Bool} (h : M_certify_FromTable_1 a0 = some r1) : ACall cx 51 [.c (.int .i64 a0)] (.c (.bool r1)) := by
  refine aOf Tryz.func51 rfl (by decide) rfl (Nat.le_of_ble_eq_true rfl) ?_; intro _; unfold M_certify_FromTable_1 at h; refine aSR ?_; intro _; refine dr_XDTab ?_; refine aSR ?_; intro _; refine spf h (fun c1 h => ?_) (fun c1 h => ?_)
  · intro _; refine dr_XDTab ?_; refine aRt ?_; intro _; obtain rfl := inj1 h; exact ca_XDTab
  · intro _; refine dr_XDTab ?_; refine aRt ?_; intro _; obtain rfl := inj1 h; exact ca_XDTab
def M_certify_combination_L1 (a0 : GTask) (a1 : List Int) : Nat → Int → Int → (List Fact) → Option (List Fact)
  | 0, _, _, _ => none
  | k15 + 1, v12, v13, v14 =>
    sel (decide (v13 ≥ 0))
     (ix a1 v13 (fun y16 =>
       ix a0.Vars y16 (fun y17 =>
        ix a1 v13 (fun y18 =>
         ixn v14 ((v13).toNat) (fun _ =>
          grd (y17 ≠ 0) (grd (v13 < ((v14.length : Nat) : Int)) (M_certify_combination_L1 a0 a1 k15 (IntKind.i64.wrap (v12.tdiv y17)) (IntKind.i64.wrap (v13 - 1)) (v14.set ((v13).toNat) (y18, (v12.tmod y17))))))))))
     (grd (v14.length ≤ 140737488355328) (some v14))
def M_certify_combination (g : Nat) (a0 : GTask) (a1 : List Int) (a2 : Int) : Option (List Fact) :=
  grd (0 ≤ ((a1.map cI).length : Int)) (grd (((a1.map cI).length : Int) * 16 ≤ 281474976710656) (M_certify_combination_L1 a0 a1 g a2 (IntKind.i64.wrap (((a1.map cI).length : Int) - 1)) (List.replicate ((a1.map cI).length : Int).toNat (0, 0))))
theorem A_certify_combination (g : Nat) (a0 : GTask) (a1 : List Int) (a2 : Int) {r1 : List Fact} (h : M_certify_combination g a0 a1 a2 = some r1) : ACall cx 52 [.agg [.sl 1 (a0.Vars.map cI), .sl 1 (a0.Init.map cI), .sl 2 (a0.Goal.map cF), .sl 4 (a0.Ops.map cGOp)], .sl 1 (a1.map cI), .c (.int .i64 a2)] (.sl 2 (r1.map cF)) := by
  refine aOf Tryz.func52 rfl (by decide) rfl (Nat.le_of_ble_eq_true rfl) ?_; intro _; unfold M_certify_combination at h; refine aSR ?_; intro _; refine dr_XDTab ?_; refine aSR ?_; intro _; obtain ⟨q1, h⟩ := grd_ok h; obtain ⟨q2, h⟩ := grd_ok h; refine ⟨_, lf_make rfl rfl (Nat.le_of_ble_eq_true rfl) (tyTab_ok 23 _ rfl) rfl (tyTab_ok 68 _ rfl) rfl rfl rfl (by first | assumption | omega) (by first | assumption | (show _ * (16 : Int) ≤ _; omega) | omega) (by omega) rfl (by simp only [Value.cells]; simp [Value.oneCell']) (by decide), ?_⟩; intro _; refine dr_XDTab ?_; refine aSq ?_; refine aSR ?_; intro _; refine dr_XDTab ?_; refine aBk ?_; refine awp_loop (α := Nat × Int × Int × (List Fact)) (fun x => mkS 43 [(1, .sl 1 (a1.map cI)), (2, .c (.int .i64 x.2.1)), (3, .ptr 3 0 0 0), (7, .own 12 0 0 x.2.2.2.length), (8, .c (.int .i64 x.2.2.1))] [(3, ⟨26, 4, true, [[.sl 1 (a0.Vars.map cI), .sl 1 (a0.Init.map cI), .sl 2 (a0.Goal.map cF), .sl 4 (a0.Ops.map cGOp)]]⟩), (12, ⟨68, 2, false, x.2.2.2.map cF⟩)]) (fun x => M_certify_combination_L1 a0 a1 x.1 x.2.1 x.2.2.1 x.2.2.2 = some r1) (fun x => x.1) (g, a2, (IntKind.i64.wrap (((a1.map cI).length : Int) - 1)), (List.replicate ((a1.map cI).length : Int).toNat (0, 0))) h ?_ ?_
  · exact ca_XDTab
  · intro x3 h; intro _; obtain ⟨k15, m4, h⟩ := succ_of (f := fun n => M_certify_combination_L1 a0 a1 n x3.2.1 x3.2.2.1 x3.2.2.2) rfl h; replace h : M_certify_combination_L1 a0 a1 (k15 + 1) x3.2.1 x3.2.2.1 x3.2.2.2 = some r1 := h; rw [M_certify_combination_L1] at h; refine aSq ?_; refine aSR ?_; intro _; refine dr_XDTab ?_; refine aCd ?_; intro _; refine spl h (fun c5 h => ?_) (fun c5 h => ?_)
    · refine aSk ?_; refine aSq ?_; refine aBk ?_; refine aSR ?_; intro _; obtain ⟨y16, w6, q7, h⟩ := ix_ok h; refine Exists.intro (cI y16) (And.intro (map_at' w6) ?_); intro _; obtain ⟨y17, w8, q9, h⟩ := ix_ok h; refine Exists.intro (cI y17) (And.intro (map_at' w8) ?_); intro _; refine pr_XDTab ?_; refine pr_XDTab ?_; refine dr_XDTab ?_; refine aSR ?_; intro _; obtain ⟨y18, w10, q11, h⟩ := ix_ok h; refine Exists.intro (cI y18) (And.intro (map_at' w10) ?_); intro _; obtain ⟨y19, w12, h⟩ := ixn_ok h; refine Exists.intro (cF y19) (And.intro (by first | exact map_at' w12 | (have w := map_at' (f := cF) w12; simpa [cF] using w)) ?_); intro _; obtain ⟨q13, h⟩ := grd_ok h; obtain ⟨q14, h⟩ := grd_ok h; refine pr_XDTab ?_; refine ⟨rfl, ?_⟩; refine pr_XDTab ?_; refine pr_XDTab ?_; refine pr_XDTab ?_; refine dr_XDTab ?_; refine aRg ?_; intro _; refine ⟨rfl, ?_⟩; refine pr_XDTab ?_; refine dr_XDTab ?_; refine aRg ?_; intro _; refine dr_XDTab ?_; refine ⟨(k15, (IntKind.i64.wrap (x3.2.1.tdiv y17)), (IntKind.i64.wrap (x3.2.2.1 - 1)), (x3.2.2.2.set ((x3.2.2.1).toNat) (y18, (x3.2.1.tmod y17)))), h, ltS m4, ?_⟩; exact ca_XDTab
    · refine aEx ?_; refine aSR ?_; intro _; refine dr_XDTab ?_; refine aRt ?_; obtain ⟨q15, h⟩ := grd_ok h; intro _; obtain rfl := inj1 h; exact ca_XDTab
def M_certify_FromTable_L1 (a0 : GTask) (a1 : List Int) : Nat → Int → Int → Option (Int ⊕ (GCertificate × Er))
  | 0, _, _ => none
  | k32 + 1, v30, v31 =>
    sel (decide (v31 < ((a1.map cI).length : Int)))
     (ix a1 v31 (fun y33 =>
       sel (decide (y33 < 0))
        (some (.inr ({ Bound := 0, Nogoods := [] : GCertificate }, (Er.no 2))))
        (sel (decide (y33 ≥ ((a0.Vars.map cI).length : Int)))
          (some (.inr ({ Bound := 0, Nogoods := [] : GCertificate }, (Er.no 2))))
          (sel (decide (v31 > 0))
            (ix a1 (IntKind.i64.wrap (v31 - 1)) (fun y34 =>
              sel (decide (y34 ≥ y33))
               (some (.inr ({ Bound := 0, Nogoods := [] : GCertificate }, (Er.no 2))))
               (ix a0.Vars y33 (fun y35 =>
                 M_certify_FromTable_L1 a0 a1 k32 (min (IntKind.i64.wrap (v30 * y35)) 1125899906842624) (IntKind.i64.wrap (v31 + 1))))))
            (ix a0.Vars y33 (fun y36 =>
              M_certify_FromTable_L1 a0 a1 k32 (min (IntKind.i64.wrap (v30 * y36)) 1125899906842624) (IntKind.i64.wrap (v31 + 1))))))))
     (some (.inl v30))
def M_certify_FromTable_L2 (a0 : GTask) (a1 : List Int) (a2 : List Int) (a3 : Int) (g : Nat) : Nat → Int → (List Nogood) → Option (GCertificate × Er)
  | 0, _, _ => none
  | k56 + 1, v54, v55 =>
    sel (decide (v54 < ((a2.map cI).length : Int)))
     (ix a2 v54 (fun y57 =>
       ob1 (sel (decide (a3 ≥ 0))
         (sel (decide (y57 ≥ a3))
           (some (.inr ()))
           (sel (y57 == 1125899906842624)
             (some (.inr ()))
             (some (.inl ()))))
         (sel (y57 == 1125899906842624)
           (some (.inr ()))
           (some (.inl ()))) : Option (Unit ⊕ Unit))
        (osum
        (fun _ => sel (((v55.length : Nat) : Int) == 4096)
           (some ({ Bound := 0, Nogoods := [] : GCertificate }, (Er.no 5)))
           (sel (decide (a3 < 0))
             (ob1 (M_certify_combination g a0 a1 v54) (fun z59 =>
               grd ((v55.length + 1) * 32 ≤ 140737488355328) (M_certify_FromTable_L2 a0 a1 a2 a3 g k56 (IntKind.i64.wrap (v54 + 1)) (v55 ++ [(z59, 0)]))))
             (ob1 (M_certify_combination g a0 a1 v54) (fun z60 =>
               grd ((v55.length + 1) * 32 ≤ 140737488355328) (M_certify_FromTable_L2 a0 a1 a2 a3 g k56 (IntKind.i64.wrap (v54 + 1)) (v55 ++ [(z60, y57)]))))))
        (fun _ => M_certify_FromTable_L2 a0 a1 a2 a3 g k56 (IntKind.i64.wrap (v54 + 1)) v55))))
     (grd (v55.length ≤ 140737488355328) (some ({ Bound := a3, Nogoods := v55 : GCertificate }, Er.nil)))
def M_certify_FromTable (g : Nat) (a0 : GTask) (a1 : List Int) (a2 : List Int) (a3 : Int) : Option (GCertificate × Er) :=
  ob1 (M_task_Check a0) (fun z1 =>
   erM z1
    (ob1 (M_certify_FromTable_L1 a0 a1 ((((a1.map cI).length : Int)).toNat + 1) 1 0 : Option (Int ⊕ (GCertificate × Er)))
      (osum
      (fun v18 => sel (v18 != ((a2.map cI).length : Int))
         (some ({ Bound := 0, Nogoods := [] : GCertificate }, (Er.no 11)))
         (ob1 (ob1 (M_certify_bounded a3) (fun z42 =>
            sel (!z42)
             (some (.inr ({ Bound := 0, Nogoods := [] : GCertificate }, (Er.no 1))))
             (ob1 (M_s_ContainsFunc_int a2 M_certify_FromTable_1) (fun z43 =>
               sel z43
                (some (.inr ({ Bound := 0, Nogoods := [] : GCertificate }, (Er.no 1))))
                (some (.inl ()))))) : Option (Unit ⊕ (GCertificate × Er)))
           (osum
           (fun _ => M_certify_FromTable_L2 a0 a1 a2 a3 g ((((a2.map cI).length : Int)).toNat + 1) 0 [])
           (fun (r39, r40) => some (r39, r40)))))
      (fun (r19, r20) => some (r19, r20))))
    (fun e2 => some ({ Bound := 0, Nogoods := [] : GCertificate }, (Er.no e2))))
theorem A_certify_FromTable (g : Nat) (a0 : GTask) (a1 : List Int) (a2 : List Int) (a3 : Int) {r1 : GCertificate} {r2 : Er} (h : M_certify_FromTable g a0 a1 a2 a3 = some (r1, r2)) : ACall cx 21 [.agg [.sl 1 (a0.Vars.map cI), .sl 1 (a0.Init.map cI), .sl 2 (a0.Goal.map cF), .sl 4 (a0.Ops.map cGOp)], .sl 1 (a1.map cI), .sl 1 (a2.map cI), .c (.int .i64 a3)] (.tup [.agg [.c (.int .i64 r1.Bound), .sl 2 (r1.Nogoods.map cN)], eA r2]) := by
  refine aOf Tryz.func21 rfl (by decide) rfl (Nat.le_of_ble_eq_true rfl) ?_; intro _; unfold M_certify_FromTable at h; refine aSR ?_; intro _; refine dr_XDTab ?_; refine aSq ?_; refine aSR ?_; intro _; obtain ⟨z1, u1, h⟩ := ob1_ok h; refine cl_XDTab rfl (A_task_Check a0 u1) ?_; intro _; refine dr_XDTab ?_; refine aSq ?_; rcases z1 with _ | e2
  · replace h := erM_nil h; refine aRg ?_; intro _; refine dr_XDTab ?_; refine aCd ?_; intro _; refine litF ?_; refine aSk ?_; refine aSR ?_; intro _; refine dr_XDTab ?_; obtain ⟨o2, h, hK3⟩ := ob1_ok h; refine awp_cut (α := Int) (fun v18 => mkS 119 [(1, .sl 1 (a1.map cI)), (2, .sl 1 (a2.map cI)), (3, .c (.int .i64 a3)), (4, .ptr 4 0 0 0), (8, .ptr 8 0 0 0), (11, .c (.int .i64 v18))] [(4, ⟨26, 4, true, [[.sl 1 (a0.Vars.map cI), .sl 1 (a0.Init.map cI), .sl 2 (a0.Goal.map cF), .sl 4 (a0.Ops.map cGOp)]]⟩), (8, ⟨31, 2, true, [[.c (.int .i64 0), .c (.slice none 0 0)]]⟩)]) (fun v => o2 = (.inl v)) ?_ ?_
    · refine aSR ?_; intro _; refine dr_XDTab ?_; refine aBk ?_; refine awp_loop (α := Nat × Int × Int) (fun x => mkS 119 [(1, .sl 1 (a1.map cI)), (2, .sl 1 (a2.map cI)), (3, .c (.int .i64 a3)), (4, .ptr 4 0 0 0), (8, .ptr 8 0 0 0), (11, .c (.int .i64 x.2.1)), (23, .sl 1 (a1.map cI)), (24, .c (.int .i64 ((a1.map cI).length : Int))), (25, .c (.int .i64 x.2.2))] [(4, ⟨26, 4, true, [[.sl 1 (a0.Vars.map cI), .sl 1 (a0.Init.map cI), .sl 2 (a0.Goal.map cF), .sl 4 (a0.Ops.map cGOp)]]⟩), (8, ⟨31, 2, true, [[.c (.int .i64 0), .c (.slice none 0 0)]]⟩)]) (fun x => M_certify_FromTable_L1 a0 a1 x.1 x.2.1 x.2.2 = some o2) (fun x => x.1) ((((a1.map cI).length : Int)).toNat + 1, 1, 0) h ?_ ?_
      · exact ca_XDTab
      · intro x4 h; intro _; obtain ⟨k32, m5, h⟩ := succ_of (f := fun n => M_certify_FromTable_L1 a0 a1 n x4.2.1 x4.2.2) rfl h; replace h : M_certify_FromTable_L1 a0 a1 (k32 + 1) x4.2.1 x4.2.2 = some o2 := h; rw [M_certify_FromTable_L1] at h; refine aSR ?_; intro _; refine dr_XDTab ?_; refine aSq ?_; refine aCd ?_; intro _; refine spl h (fun c6 h => ?_) (fun c6 h => ?_)
        · refine aSk ?_; refine aSq ?_; refine aBk ?_; refine aSR ?_; intro _; obtain ⟨y33, w7, q8, h⟩ := ix_ok h; refine Exists.intro (cI y33) (And.intro (map_at' w7) ?_); intro _; refine pr_XDTab ?_; refine dr_XDTab ?_; refine aSq ?_; refine aSR ?_; intro _; refine spf h (fun c9 h => ?_) (fun c9 h => ?_)
          · intro _; refine spf h (fun c10 h => ?_) (fun c10 h => ?_)
            · intro _; refine spl h (fun c11 h => ?_) (fun c11 h => ?_)
              · intro _; obtain ⟨y34, w12, q13, h⟩ := ix_ok h; refine Exists.intro (cI y34) (And.intro (map_at' w12) ?_); intro _; refine pr_XDTab ?_; refine dr_XDTab ?_; refine aCd ?_; intro _; refine spl h (fun c14 h => ?_) (fun c14 h => ?_)
                · refine aSR ?_; intro _; refine dr_XDTab ?_; refine aRt ?_; have j15 := Option.some.inj h; subst j15; replace h := (osum_r hK3); intro _; obtain ⟨rfl, rfl⟩ := inj2 h; exact ca_XDTab
                · refine aSk ?_; refine aRg ?_; intro _; obtain ⟨y35, w16, q17, h⟩ := ix_ok h; refine Exists.intro (cI y35) (And.intro (map_at' w16) ?_); intro _; refine ⟨_, lf_min rfl (Nat.le_of_ble_eq_true rfl) rfl rfl, ?_⟩; intro _; refine pr_XDTab ?_; refine dr_XDTab ?_; refine aRg ?_; intro _; refine dr_XDTab ?_; refine ⟨(k32, (min (IntKind.i64.wrap (x4.2.1 * y35)) 1125899906842624), (IntKind.i64.wrap (x4.2.2 + 1))), h, ltS m5, ?_⟩; exact ca_XDTab
              · intro _; refine dr_XDTab ?_; refine aCd ?_; intro _; refine litF ?_; refine aSk ?_; refine aRg ?_; intro _; obtain ⟨y36, w18, q19, h⟩ := ix_ok h; refine Exists.intro (cI y36) (And.intro (map_at' w18) ?_); intro _; refine ⟨_, lf_min rfl (Nat.le_of_ble_eq_true rfl) rfl rfl, ?_⟩; intro _; refine pr_XDTab ?_; refine dr_XDTab ?_; refine aRg ?_; intro _; refine dr_XDTab ?_; refine ⟨(k32, (min (IntKind.i64.wrap (x4.2.1 * y36)) 1125899906842624), (IntKind.i64.wrap (x4.2.2 + 1))), h, ltS m5, ?_⟩; exact ca_XDTab
            · intro _; refine dr_XDTab ?_; refine aCd ?_; intro _; refine litT ?_; refine aSR ?_; intro _; refine dr_XDTab ?_; refine aRt ?_; have j20 := Option.some.inj h; subst j20; replace h := (osum_r hK3); intro _; obtain ⟨rfl, rfl⟩ := inj2 h; exact ca_XDTab
          · intro _; refine dr_XDTab ?_; refine aCd ?_; intro _; refine litT ?_; refine aSR ?_; intro _; refine dr_XDTab ?_; refine aRt ?_; have j21 := Option.some.inj h; subst j21; replace h := (osum_r hK3); intro _; obtain ⟨rfl, rfl⟩ := inj2 h; exact ca_XDTab
        · refine aEx ?_; refine ⟨x4.2.1, (Option.some.inj h).symm, ?_⟩; exact ca_XDTab
    · rintro v18 ho; have ho := ho.symm; subst ho; intro _; replace h := (osum_l hK3); refine aSq ?_; refine aSR ?_; intro _; refine dr_XDTab ?_; refine aCd ?_; intro _; refine spl h (fun c22 h => ?_) (fun c22 h => ?_)
      · refine aSR ?_; intro _; refine dr_XDTab ?_; refine aRt ?_; intro _; obtain ⟨rfl, rfl⟩ := inj2 h; exact ca_XDTab
      · refine aSk ?_; obtain ⟨o23, h, hK24⟩ := ob1_ok h; refine awp_cut (α := Unit) (fun _ => mkS 119 [(1, .sl 1 (a1.map cI)), (2, .sl 1 (a2.map cI)), (3, .c (.int .i64 a3)), (4, .ptr 4 0 0 0), (8, .ptr 8 0 0 0)] [(4, ⟨26, 4, true, [[.sl 1 (a0.Vars.map cI), .sl 1 (a0.Init.map cI), .sl 2 (a0.Goal.map cF), .sl 4 (a0.Ops.map cGOp)]]⟩), (8, ⟨31, 2, true, [[.c (.int .i64 0), .c (.slice none 0 0)]]⟩)]) (fun v => o23 = (.inl v)) ?_ ?_
        · refine aSR ?_; intro _; obtain ⟨z42, u25, h⟩ := ob1_ok h; refine cl_XDTab rfl (A_certify_bounded a3 u25) ?_; intro _; refine spf h (fun c26 h => ?_) (fun c26 h => ?_)
          · intro _; obtain ⟨z43, u27, h⟩ := ob1_ok h; refine clb_XDTab [] rfl rfl (A_s_ContainsFunc_int a2 M_certify_FromTable_1 (.clo (.func 51) [] []) (Fr.clo FrC_nil FrE.h) ⟨_, _, _, rfl⟩ (fun x0 y0 hx => ⟨51, [], _, rfl, A_certify_FromTable_1 x0 hx⟩) u27) ?_; intro _; refine dr_XDTab ?_; refine aCd ?_; intro _; refine spl h (fun c28 h => ?_) (fun c28 h => ?_)
            · refine aSR ?_; intro _; refine dr_XDTab ?_; refine aRt ?_; have j29 := Option.some.inj h; subst j29; replace h := (osum_r hK24); intro _; obtain ⟨rfl, rfl⟩ := inj2 h; exact ca_XDTab
            · refine aSk ?_; refine ⟨(), (Option.some.inj h).symm, ?_⟩; exact ca_XDTab
          · intro _; refine dr_XDTab ?_; refine aCd ?_; intro _; refine litT ?_; refine aSR ?_; intro _; refine dr_XDTab ?_; refine aRt ?_; have j30 := Option.some.inj h; subst j30; replace h := (osum_r hK24); intro _; obtain ⟨rfl, rfl⟩ := inj2 h; exact ca_XDTab
        · rintro _ ho; have ho := ho.symm; subst ho; intro _; replace h := (osum_l hK24); refine aSR ?_; intro _; refine dr_XDTab ?_; refine aSq ?_; refine aSR ?_; intro _; refine dr_XDTab ?_; refine aBk ?_; refine awp_loop (α := Nat × Int × (List Nogood)) (fun x => mkS 119 [(1, .sl 1 (a1.map cI)), (3, .c (.int .i64 a3)), (4, .ptr 4 0 0 0), (8, .ptr 8 0 0 0), (14, .ptr 14 0 0 0), (80, .sl 1 (a2.map cI)), (81, .c (.int .i64 ((a2.map cI).length : Int))), (82, .c (.int .i64 x.2.1))] [(4, ⟨26, 4, true, [[.sl 1 (a0.Vars.map cI), .sl 1 (a0.Init.map cI), .sl 2 (a0.Goal.map cF), .sl 4 (a0.Ops.map cGOp)]]⟩), (8, ⟨31, 2, true, [[.c (.int .i64 0), .c (.slice none 0 0)]]⟩), (14, ⟨31, 2, true, [[.c (.int .i64 a3), .own 115 0 0 x.2.2.length]]⟩), (115, ⟨40, 2, false, x.2.2.map cN⟩)]) (fun x => M_certify_FromTable_L2 a0 a1 a2 a3 g x.1 x.2.1 x.2.2 = some (r1, r2)) (fun x => x.1) ((((a2.map cI).length : Int)).toNat + 1, 0, []) h ?_ ?_
          · exact ca_XDTab
          · intro x31 h; intro _; obtain ⟨k56, m32, h⟩ := succ_of (f := fun n => M_certify_FromTable_L2 a0 a1 a2 a3 g n x31.2.1 x31.2.2) rfl h; replace h : M_certify_FromTable_L2 a0 a1 a2 a3 g (k56 + 1) x31.2.1 x31.2.2 = some (r1, r2) := h; rw [M_certify_FromTable_L2] at h; refine aSR ?_; intro _; refine dr_XDTab ?_; refine aSq ?_; refine aCd ?_; intro _; refine spl h (fun c33 h => ?_) (fun c33 h => ?_)
            · refine aSk ?_; refine aSq ?_; refine aBk ?_; refine aSR ?_; intro _; obtain ⟨y57, w34, q35, h⟩ := ix_ok h; refine Exists.intro (cI y57) (And.intro (map_at' w34) ?_); intro _; refine pr_XDTab ?_; refine dr_XDTab ?_; obtain ⟨o36, h, hK37⟩ := ob1_ok h; refine awp_cut (α := Unit) (fun _ => mkS 119 [(1, .sl 1 (a1.map cI)), (3, .c (.int .i64 a3)), (4, .ptr 4 0 0 0), (8, .ptr 8 0 0 0), (14, .ptr 14 0 0 0), (15, .c (.int .i64 x31.2.1)), (16, .c (.int .i64 y57)), (80, .sl 1 (a2.map cI)), (81, .c (.int .i64 ((a2.map cI).length : Int))), (82, .c (.int .i64 x31.2.1)), (95, .c (.int .i64 y57)), (96, .c (.bool (y57 == 1125899906842624)))] [(4, ⟨26, 4, true, [[.sl 1 (a0.Vars.map cI), .sl 1 (a0.Init.map cI), .sl 2 (a0.Goal.map cF), .sl 4 (a0.Ops.map cGOp)]]⟩), (8, ⟨31, 2, true, [[.c (.int .i64 0), .c (.slice none 0 0)]]⟩), (14, ⟨31, 2, true, [[.c (.int .i64 a3), .own 115 0 0 x31.2.2.length]]⟩), (115, ⟨40, 2, false, x31.2.2.map cN⟩)]) (fun v => o36 = (.inl v)) ?_ ?_
              · refine aSR ?_; intro _; refine spl h (fun c38 h => ?_) (fun c38 h => ?_)
                · intro _; refine spf h (fun c39 h => ?_) (fun c39 h => ?_)
                  · intro _; refine dr_XDTab ?_; refine aCd ?_; intro _; refine spl h (fun c40 h => ?_) (fun c40 h => ?_)
                    · refine aEx ?_; have j41 := Option.some.inj h; subst j41; replace h := (osum_r hK37); refine aRg ?_; intro _; refine dr_XDTab ?_; refine ⟨(k56, (IntKind.i64.wrap (x31.2.1 + 1)), x31.2.2), h, ltS m32, ?_⟩; exact ca_XDTab
                    · refine aSk ?_; refine ⟨(), (Option.some.inj h).symm, ?_⟩; exact ca_XDTab
                  · intro _; refine dr_XDTab ?_; refine aCd ?_; intro _; refine litT ?_; refine aEx ?_; have j42 := Option.some.inj h; subst j42; replace h := (osum_r hK37); refine aRg ?_; intro _; refine dr_XDTab ?_; refine ⟨(k56, (IntKind.i64.wrap (x31.2.1 + 1)), x31.2.2), h, ltS m32, ?_⟩; exact ca_XDTab
                · intro _; refine dr_XDTab ?_; refine aCd ?_; intro _; refine spl h (fun c43 h => ?_) (fun c43 h => ?_)
                  · refine aEx ?_; have j44 := Option.some.inj h; subst j44; replace h := (osum_r hK37); refine aRg ?_; intro _; refine dr_XDTab ?_; refine ⟨(k56, (IntKind.i64.wrap (x31.2.1 + 1)), x31.2.2), h, ltS m32, ?_⟩; exact ca_XDTab
                  · refine aSk ?_; refine ⟨(), (Option.some.inj h).symm, ?_⟩; exact ca_XDTab
              · rintro _ ho; have ho := ho.symm; subst ho; intro _; replace h := (osum_l hK37); refine aSq ?_; refine aSR ?_; intro _; refine dr_XDTab ?_; refine aCd ?_; intro _; refine spl h (fun c45 h => ?_) (fun c45 h => ?_)
                · refine aSR ?_; intro _; refine dr_XDTab ?_; refine aRt ?_; intro _; obtain ⟨rfl, rfl⟩ := inj2 h; exact ca_XDTab
                · refine aSk ?_; refine aSq ?_; refine aSR ?_; intro _; refine dr_XDTab ?_; refine aCd ?_; intro _; refine spl h (fun c46 h => ?_) (fun c46 h => ?_)
                  · refine aRg ?_; intro _; refine dr_XDTab ?_; refine aRg ?_; intro _; obtain ⟨z59, u47, h⟩ := ob1_ok h; refine cl_XDTab rfl (A_certify_combination g a0 a1 x31.2.1 u47) ?_; intro _; obtain ⟨q48, h⟩ := grd_ok h; refine pl_XDTab ?_; refine pl_XDTab ?_; refine And.intro (by first | with_reducible assumption | (show (x31.2.2.length + 1) * 32 ≤ 140737488355328; with_reducible assumption) | omega | (simp; omega)) ?_; refine pe_XDTab ?_; refine dr_XDTab ?_; refine aRg ?_; intro _; refine dr_XDTab ?_; refine ⟨(k56, (IntKind.i64.wrap (x31.2.1 + 1)), (x31.2.2 ++ [(z59, 0)])), h, ltS m32, ?_⟩; exact ca_XDTab
                  · refine aSk ?_; refine aRg ?_; intro _; obtain ⟨z60, u49, h⟩ := ob1_ok h; refine cl_XDTab rfl (A_certify_combination g a0 a1 x31.2.1 u49) ?_; intro _; obtain ⟨q50, h⟩ := grd_ok h; refine pl_XDTab ?_; refine pl_XDTab ?_; refine And.intro (by first | with_reducible assumption | (show (x31.2.2.length + 1) * 32 ≤ 140737488355328; with_reducible assumption) | omega | (simp; omega)) ?_; refine pe_XDTab ?_; refine dr_XDTab ?_; refine aRg ?_; intro _; refine dr_XDTab ?_; refine ⟨(k56, (IntKind.i64.wrap (x31.2.1 + 1)), (x31.2.2 ++ [(z60, y57)])), h, ltS m32, ?_⟩; exact ca_XDTab
            · refine aEx ?_; refine aSR ?_; intro _; refine dr_XDTab ?_; refine aRt ?_; obtain ⟨q51, h⟩ := grd_ok h; intro _; obtain ⟨rfl, rfl⟩ := inj2 h; exact ca_XDTab
  · replace h := erM_no h; refine aRg ?_; intro _; refine dr_XDTab ?_; refine aCd ?_; intro _; refine litT ?_; refine aSR ?_; intro _; refine dr_XDTab ?_; refine aRt ?_; intro _; obtain ⟨rfl, rfl⟩ := inj2 h; exact ca_XDTab
def M_r05_large_L1 (y69 : GOp) : Nat → Bool → Int → Option (Bool)
  | 0, _, _ => none
  | k78 + 1, v76, v77 =>
    sel (decide (v77 < ((y69.Effs.map cGEffect).length : Int)))
     (ix y69.Effs v77 (fun y79 =>
       sel v76
        (M_r05_large_L1 y69 k78 true (IntKind.i64.wrap (v77 + 1)))
        (M_r05_large_L1 y69 k78 (decide (((y79.When.map cF).length : Int) > 64)) (IntKind.i64.wrap (v77 + 1)))))
     (some v76)
def M_r05_large_L2 (a0 : GTask) : Nat → Bool → Int → Option (Bool)
  | 0, _, _ => none
  | k55 + 1, v53, v54 =>
    sel (decide (v54 < ((a0.Ops.map cGOp).length : Int)))
     (ob1 (ix a0.Ops v54 (fun y69 =>
        ob1 (sel v53
          (some true)
          (sel (decide (((y69.Pre.map cF).length : Int) > 64))
            (some true)
            (some (decide (((y69.Effs.map cGEffect).length : Int) > 64)))) : Option (Bool))
         (fun v70 => M_r05_large_L1 y69 ((((y69.Effs.map cGEffect).length : Int)).toNat + 1) v70 0)) : Option (Bool))
       (fun v67 => M_r05_large_L2 a0 k55 v67 (IntKind.i64.wrap (v54 + 1))))
     (some v53)
def M_r05_large (a0 : GTask) : Option (Bool) :=
  ob1 (sel (decide (((a0.Vars.map cI).length : Int) > 64))
    (some true)
    (sel (decide (((a0.Ops.map cGOp).length : Int) > 4096))
      (some true)
      (some (decide (((a0.Goal.map cF).length : Int) > 64)))) : Option (Bool))
   (fun v1 => M_r05_large_L2 a0 ((((a0.Ops.map cGOp).length : Int)).toNat + 1) v1 0)
theorem A_r05_large (a0 : GTask) {r1 : Bool} (h : M_r05_large a0 = some r1) : ACall cx 62 [.agg [.sl 1 (a0.Vars.map cI), .sl 1 (a0.Init.map cI), .sl 2 (a0.Goal.map cF), .sl 4 (a0.Ops.map cGOp)]] (.c (.bool r1)) := by
  refine aOf Tryz.func62 rfl (by decide) rfl (Nat.le_of_ble_eq_true rfl) ?_; intro _; unfold M_r05_large at h; refine aSR ?_; intro _; refine dr_XDTab ?_; obtain ⟨o1, h, hK2⟩ := ob1_ok h; refine awp_cut (α := Bool) (fun v1 => mkS 61 [(1, .ptr 1 0 0 0), (3, .c (.bool v1))] [(1, ⟨26, 4, true, [[.sl 1 (a0.Vars.map cI), .sl 1 (a0.Init.map cI), .sl 2 (a0.Goal.map cF), .sl 4 (a0.Ops.map cGOp)]]⟩)]) (fun v => o1 = v) ?_ ?_
  · refine aRg ?_; intro _; refine spf h (fun c3 h => ?_) (fun c3 h => ?_)
    · intro _; refine spf h (fun c4 h => ?_) (fun c4 h => ?_)
      · intro _; refine dr_XDTab ?_; refine ⟨(decide (((a0.Goal.map cF).length : Int) > 64)), (Option.some.inj h).symm, ?_⟩; exact ca_XDTab
      · intro _; refine dr_XDTab ?_; refine ⟨true, (Option.some.inj h).symm, ?_⟩; exact ca_XDTab
    · intro _; refine dr_XDTab ?_; refine ⟨true, (Option.some.inj h).symm, ?_⟩; exact ca_XDTab
  · rintro v1 ho; have ho := ho.symm; subst ho; intro _; replace h := hK2; refine aSq ?_; refine aSR ?_; intro _; refine dr_XDTab ?_; refine aBk ?_; refine awp_loop (α := Nat × Bool × Int) (fun x => mkS 61 [(3, .c (.bool x.2.1)), (25, .sl 4 (a0.Ops.map cGOp)), (26, .c (.int .i64 ((a0.Ops.map cGOp).length : Int))), (27, .c (.int .i64 x.2.2))] []) (fun x => M_r05_large_L2 a0 x.1 x.2.1 x.2.2 = some r1) (fun x => x.1) ((((a0.Ops.map cGOp).length : Int)).toNat + 1, v1, 0) h ?_ ?_
    · exact ca_XDTab
    · intro x5 h; intro _; obtain ⟨k55, m6, h⟩ := succ_of (f := fun n => M_r05_large_L2 a0 n x5.2.1 x5.2.2) rfl h; replace h : M_r05_large_L2 a0 (k55 + 1) x5.2.1 x5.2.2 = some r1 := h; rw [M_r05_large_L2] at h; refine aSR ?_; intro _; refine dr_XDTab ?_; refine aSq ?_; refine aCd ?_; intro _; refine spl h (fun c7 h => ?_) (fun c7 h => ?_)
      · refine aSk ?_; obtain ⟨o8, h, hK9⟩ := ob1_ok h; refine awp_cut (α := Bool) (fun v67 => mkS 61 [(3, .c (.bool v67)), (25, .sl 4 (a0.Ops.map cGOp)), (26, .c (.int .i64 ((a0.Ops.map cGOp).length : Int))), (27, .c (.int .i64 x5.2.2))] []) (fun v => o8 = v) ?_ ?_
        · refine aBk ?_; refine aSR ?_; intro _; obtain ⟨y69, w10, q11, h⟩ := ix_ok h; refine Exists.intro (cGOp y69) (And.intro (map_at' w10) ?_); intro _; refine pr_XDTab ?_; refine dr_XDTab ?_; obtain ⟨o12, h, hK13⟩ := ob1_ok h; refine awp_cut (α := Bool) (fun v70 => mkS 61 [(3, .c (.bool v70)), (5, .ptr 5 0 0 0), (25, .sl 4 (a0.Ops.map cGOp)), (26, .c (.int .i64 ((a0.Ops.map cGOp).length : Int))), (27, .c (.int .i64 x5.2.2))] [(5, ⟨73, 4, true, [[.c (.string y69.Name), .c (.int .i64 y69.Cost), .sl 2 (y69.Pre.map cF), .sl 3 (y69.Effs.map cGEffect)]]⟩)]) (fun v => o12 = v) ?_ ?_
          · refine aRg ?_; intro _; refine spf h (fun c14 h => ?_) (fun c14 h => ?_)
            · intro _; refine spf h (fun c15 h => ?_) (fun c15 h => ?_)
              · intro _; refine dr_XDTab ?_; refine ⟨(decide (((y69.Effs.map cGEffect).length : Int) > 64)), (Option.some.inj h).symm, ?_⟩; exact ca_XDTab
              · intro _; refine dr_XDTab ?_; refine ⟨true, (Option.some.inj h).symm, ?_⟩; exact ca_XDTab
            · intro _; refine dr_XDTab ?_; refine ⟨true, (Option.some.inj h).symm, ?_⟩; exact ca_XDTab
          · rintro v70 ho; have ho := ho.symm; subst ho; intro _; replace h := hK13; refine aSR ?_; intro _; refine dr_XDTab ?_; refine aBk ?_; refine awp_loop (α := Nat × Bool × Int) (fun x => mkS 61 [(3, .c (.bool x.2.1)), (25, .sl 4 (a0.Ops.map cGOp)), (26, .c (.int .i64 ((a0.Ops.map cGOp).length : Int))), (27, .c (.int .i64 x5.2.2)), (45, .sl 3 (y69.Effs.map cGEffect)), (46, .c (.int .i64 ((y69.Effs.map cGEffect).length : Int))), (47, .c (.int .i64 x.2.2))] []) (fun x => M_r05_large_L1 y69 x.1 x.2.1 x.2.2 = some o8) (fun x => x.1) ((((y69.Effs.map cGEffect).length : Int)).toNat + 1, v70, 0) h ?_ ?_
            · exact ca_XDTab
            · intro x16 h; intro _; obtain ⟨k78, m17, h⟩ := succ_of (f := fun n => M_r05_large_L1 y69 n x16.2.1 x16.2.2) rfl h; replace h : M_r05_large_L1 y69 (k78 + 1) x16.2.1 x16.2.2 = some o8 := h; rw [M_r05_large_L1] at h; refine aSR ?_; intro _; refine dr_XDTab ?_; refine aSq ?_; refine aCd ?_; intro _; refine spl h (fun c18 h => ?_) (fun c18 h => ?_)
              · refine aSk ?_; refine aSq ?_; refine aBk ?_; refine aSR ?_; intro _; obtain ⟨y79, w19, q20, h⟩ := ix_ok h; refine Exists.intro (cGEffect y79) (And.intro (map_at' w19) ?_); intro _; refine pr_XDTab ?_; refine dr_XDTab ?_; refine aRg ?_; intro _; refine spf h (fun c21 h => ?_) (fun c21 h => ?_)
                · intro _; refine dr_XDTab ?_; refine aRg ?_; intro _; refine dr_XDTab ?_; refine ⟨(k78, (decide (((y79.When.map cF).length : Int) > 64)), (IntKind.i64.wrap (x16.2.2 + 1))), h, ltS m17, ?_⟩; exact ca_XDTab
                · intro _; refine dr_XDTab ?_; refine aRg ?_; intro _; refine dr_XDTab ?_; refine ⟨(k78, true, (IntKind.i64.wrap (x16.2.2 + 1))), h, ltS m17, ?_⟩; exact ca_XDTab
              · refine aEx ?_; refine ⟨x16.2.1, (Option.some.inj h).symm, ?_⟩; exact ca_XDTab
        · rintro v67 ho; have ho := ho.symm; subst ho; intro _; replace h := hK9; refine aRg ?_; intro _; refine dr_XDTab ?_; refine ⟨(k55, v67, (IntKind.i64.wrap (x5.2.2 + 1))), h, ltS m6, ?_⟩; exact ca_XDTab
      · refine aEx ?_; refine aSR ?_; intro _; refine dr_XDTab ?_; refine aRt ?_; intro _; obtain rfl := inj1 h; exact ca_XDTab
def M_r05_outside_L1 (a0 : GTask) : Nat → Bool → Int → Option (Bool)
  | 0, _, _ => none
  | k17 + 1, v15, v16 =>
    sel (decide (v16 < ((a0.Vars.map cI).length : Int)))
     (ix a0.Vars v16 (fun y18 =>
       sel v15
        (M_r05_outside_L1 a0 k17 true (IntKind.i64.wrap (v16 + 1)))
        (sel (decide (y18 < 1))
          (M_r05_outside_L1 a0 k17 true (IntKind.i64.wrap (v16 + 1)))
          (M_r05_outside_L1 a0 k17 (decide (y18 > 64)) (IntKind.i64.wrap (v16 + 1))))))
     (some v15)
def M_r05_outside_L2 (a0 : GTask) : Nat → Bool → Int → Option (Bool)
  | 0, _, _ => none
  | k25 + 1, v23, v24 =>
    sel (decide (v24 < ((a0.Ops.map cGOp).length : Int)))
     (ix a0.Ops v24 (fun y26 =>
       sel v23
        (M_r05_outside_L2 a0 k25 true (IntKind.i64.wrap (v24 + 1)))
        (sel (decide (y26.Cost < 0))
          (M_r05_outside_L2 a0 k25 true (IntKind.i64.wrap (v24 + 1)))
          (M_r05_outside_L2 a0 k25 (decide (y26.Cost > 1048576)) (IntKind.i64.wrap (v24 + 1))))))
     (some v23)
def M_r05_outside (a0 : GTask) : Option (Bool) :=
  ob1 (M_r05_outside_L1 a0 ((((a0.Vars.map cI).length : Int)).toNat + 1) false 0 : Option (Bool))
   (fun v9 => M_r05_outside_L2 a0 ((((a0.Ops.map cGOp).length : Int)).toNat + 1) v9 0)
theorem A_r05_outside (a0 : GTask) {r1 : Bool} (h : M_r05_outside a0 = some r1) : ACall cx 63 [.agg [.sl 1 (a0.Vars.map cI), .sl 1 (a0.Init.map cI), .sl 2 (a0.Goal.map cF), .sl 4 (a0.Ops.map cGOp)]] (.c (.bool r1)) := by
  refine aOf Tryz.func63 rfl (by decide) rfl (Nat.le_of_ble_eq_true rfl) ?_; intro _; unfold M_r05_outside at h; refine aSR ?_; intro _; refine dr_XDTab ?_; refine aSR ?_; intro _; refine dr_XDTab ?_; obtain ⟨o1, h, hK2⟩ := ob1_ok h; refine awp_cut (α := Bool) (fun v9 => mkS 45 [(1, .ptr 1 0 0 0), (3, .c (.bool v9))] [(1, ⟨26, 4, true, [[.sl 1 (a0.Vars.map cI), .sl 1 (a0.Init.map cI), .sl 2 (a0.Goal.map cF), .sl 4 (a0.Ops.map cGOp)]]⟩)]) (fun v => o1 = v) ?_ ?_
  · refine aSR ?_; intro _; refine dr_XDTab ?_; refine aBk ?_; refine awp_loop (α := Nat × Bool × Int) (fun x => mkS 45 [(1, .ptr 1 0 0 0), (3, .c (.bool x.2.1)), (9, .sl 1 (a0.Vars.map cI)), (10, .c (.int .i64 ((a0.Vars.map cI).length : Int))), (11, .c (.int .i64 x.2.2))] [(1, ⟨26, 4, true, [[.sl 1 (a0.Vars.map cI), .sl 1 (a0.Init.map cI), .sl 2 (a0.Goal.map cF), .sl 4 (a0.Ops.map cGOp)]]⟩)]) (fun x => M_r05_outside_L1 a0 x.1 x.2.1 x.2.2 = some o1) (fun x => x.1) ((((a0.Vars.map cI).length : Int)).toNat + 1, false, 0) h ?_ ?_
    · exact ca_XDTab
    · intro x3 h; intro _; obtain ⟨k17, m4, h⟩ := succ_of (f := fun n => M_r05_outside_L1 a0 n x3.2.1 x3.2.2) rfl h; replace h : M_r05_outside_L1 a0 (k17 + 1) x3.2.1 x3.2.2 = some o1 := h; rw [M_r05_outside_L1] at h; refine aSR ?_; intro _; refine dr_XDTab ?_; refine aSq ?_; refine aCd ?_; intro _; refine spl h (fun c5 h => ?_) (fun c5 h => ?_)
      · refine aSk ?_; refine aSq ?_; refine aBk ?_; refine aSR ?_; intro _; obtain ⟨y18, w6, q7, h⟩ := ix_ok h; refine Exists.intro (cI y18) (And.intro (map_at' w6) ?_); intro _; refine pr_XDTab ?_; refine dr_XDTab ?_; refine aRg ?_; intro _; refine spf h (fun c8 h => ?_) (fun c8 h => ?_)
        · intro _; refine spf h (fun c9 h => ?_) (fun c9 h => ?_)
          · intro _; refine dr_XDTab ?_; refine aRg ?_; intro _; refine dr_XDTab ?_; refine ⟨(k17, (decide (y18 > 64)), (IntKind.i64.wrap (x3.2.2 + 1))), h, ltS m4, ?_⟩; exact ca_XDTab
          · intro _; refine dr_XDTab ?_; refine aRg ?_; intro _; refine dr_XDTab ?_; refine ⟨(k17, true, (IntKind.i64.wrap (x3.2.2 + 1))), h, ltS m4, ?_⟩; exact ca_XDTab
        · intro _; refine dr_XDTab ?_; refine aRg ?_; intro _; refine dr_XDTab ?_; refine ⟨(k17, true, (IntKind.i64.wrap (x3.2.2 + 1))), h, ltS m4, ?_⟩; exact ca_XDTab
      · refine aEx ?_; refine ⟨x3.2.1, (Option.some.inj h).symm, ?_⟩; exact ca_XDTab
  · rintro v9 ho; have ho := ho.symm; subst ho; intro _; replace h := hK2; refine aSq ?_; refine aSR ?_; intro _; refine dr_XDTab ?_; refine aBk ?_; refine awp_loop (α := Nat × Bool × Int) (fun x => mkS 45 [(3, .c (.bool x.2.1)), (26, .sl 4 (a0.Ops.map cGOp)), (27, .c (.int .i64 ((a0.Ops.map cGOp).length : Int))), (28, .c (.int .i64 x.2.2))] []) (fun x => M_r05_outside_L2 a0 x.1 x.2.1 x.2.2 = some r1) (fun x => x.1) ((((a0.Ops.map cGOp).length : Int)).toNat + 1, v9, 0) h ?_ ?_
    · exact ca_XDTab
    · intro x10 h; intro _; obtain ⟨k25, m11, h⟩ := succ_of (f := fun n => M_r05_outside_L2 a0 n x10.2.1 x10.2.2) rfl h; replace h : M_r05_outside_L2 a0 (k25 + 1) x10.2.1 x10.2.2 = some r1 := h; rw [M_r05_outside_L2] at h; refine aSR ?_; intro _; refine dr_XDTab ?_; refine aSq ?_; refine aCd ?_; intro _; refine spl h (fun c12 h => ?_) (fun c12 h => ?_)
      · refine aSk ?_; refine aSq ?_; refine aBk ?_; refine aSR ?_; intro _; obtain ⟨y26, w13, q14, h⟩ := ix_ok h; refine Exists.intro (cGOp y26) (And.intro (map_at' w13) ?_); intro _; refine pr_XDTab ?_; refine dr_XDTab ?_; refine aRg ?_; intro _; refine spf h (fun c15 h => ?_) (fun c15 h => ?_)
        · intro _; refine spf h (fun c16 h => ?_) (fun c16 h => ?_)
          · intro _; refine dr_XDTab ?_; refine aRg ?_; intro _; refine dr_XDTab ?_; refine ⟨(k25, (decide (y26.Cost > 1048576)), (IntKind.i64.wrap (x10.2.2 + 1))), h, ltS m11, ?_⟩; exact ca_XDTab
          · intro _; refine dr_XDTab ?_; refine aRg ?_; intro _; refine dr_XDTab ?_; refine ⟨(k25, true, (IntKind.i64.wrap (x10.2.2 + 1))), h, ltS m11, ?_⟩; exact ca_XDTab
        · intro _; refine dr_XDTab ?_; refine aRg ?_; intro _; refine dr_XDTab ?_; refine ⟨(k25, true, (IntKind.i64.wrap (x10.2.2 + 1))), h, ltS m11, ?_⟩; exact ca_XDTab
      · refine aEx ?_; refine aSR ?_; intro _; refine dr_XDTab ?_; refine aRt ?_; intro _; obtain rfl := inj1 h; exact ca_XDTab
def M_r05_malformed_L1 (a0 : GTask) (y113 : GOp) : Nat → Bool → Int → Option (Bool)
  | 0, _, _ => none
  | k128 + 1, v126, v127 =>
    sel (decide (v127 < ((y113.Effs.map cGEffect).length : Int)))
     (ix y113.Effs v127 (fun y129 =>
       sel v126
        (M_r05_malformed_L1 a0 y113 k128 true (IntKind.i64.wrap (v127 + 1)))
        (ob1 (M_b_Proper a0.Vars y129.When) (fun z130 =>
          sel (!z130)
           (M_r05_malformed_L1 a0 y113 k128 true (IntKind.i64.wrap (v127 + 1)))
           (ob1 (M_b_Proper a0.Vars [(y129.Var, y129.Val)]) (fun z131 =>
             M_r05_malformed_L1 a0 y113 k128 (!z131) (IntKind.i64.wrap (v127 + 1))))))))
     (some v126)
def M_r05_malformed_L2 (a0 : GTask) : Nat → Bool → Int → Option (Bool)
  | 0, _, _ => none
  | k91 + 1, v89, v90 =>
    sel (decide (v90 < ((a0.Ops.map cGOp).length : Int)))
     (ob1 (ix a0.Ops v90 (fun y113 =>
        ob1 (sel v89
          (some true)
          (ob1 (M_b_Proper a0.Vars y113.Pre) (fun z117 =>
            some (!z117))) : Option (Bool))
         (fun v115 => M_r05_malformed_L1 a0 y113 ((((y113.Effs.map cGEffect).length : Int)).toNat + 1) v115 0)) : Option (Bool))
       (fun v111 => M_r05_malformed_L2 a0 k91 v111 (IntKind.i64.wrap (v90 + 1))))
     (some v89)
def M_r05_malformed (a0 : GTask) : Option (Bool) :=
  ob1 (ob1 (M_b_State a0.Vars a0.Init) (fun z5 =>
    sel (!z5)
     (some true)
     (ob1 (M_b_Proper a0.Vars a0.Goal) (fun z6 =>
       some (!z6)))) : Option (Bool))
   (fun v3 => M_r05_malformed_L2 a0 ((((a0.Ops.map cGOp).length : Int)).toNat + 1) v3 0)
theorem A_r05_malformed (a0 : GTask) {r1 : Bool} (h : M_r05_malformed a0 = some r1) : ACall cx 64 [.agg [.sl 1 (a0.Vars.map cI), .sl 1 (a0.Init.map cI), .sl 2 (a0.Goal.map cF), .sl 4 (a0.Ops.map cGOp)]] (.c (.bool r1)) := by
  refine aOf Tryz.func64 rfl (by decide) rfl (Nat.le_of_ble_eq_true rfl) ?_; intro _; unfold M_r05_malformed at h; refine aSR ?_; intro _; refine dr_XDTab ?_; obtain ⟨o1, h, hK2⟩ := ob1_ok h; refine awp_cut (α := Bool) (fun v3 => mkS 69 [(1, .ptr 1 0 0 0), (3, .c (.bool v3))] [(1, ⟨26, 4, true, [[.sl 1 (a0.Vars.map cI), .sl 1 (a0.Init.map cI), .sl 2 (a0.Goal.map cF), .sl 4 (a0.Ops.map cGOp)]]⟩)]) (fun v => o1 = v) ?_ ?_
  · refine aRg ?_; intro _; obtain ⟨z5, u3, h⟩ := ob1_ok h; refine cl_XDTab rfl (A_b_State a0.Vars a0.Init u3) ?_; intro _; refine spf h (fun c4 h => ?_) (fun c4 h => ?_)
    · intro _; obtain ⟨z6, u5, h⟩ := ob1_ok h; refine cl_XDTab rfl (A_b_Proper a0.Vars a0.Goal u5) ?_; intro _; refine dr_XDTab ?_; refine ⟨(!z6), (Option.some.inj h).symm, ?_⟩; exact ca_XDTab
    · intro _; refine dr_XDTab ?_; refine ⟨true, (Option.some.inj h).symm, ?_⟩; exact ca_XDTab
  · rintro v3 ho; have ho := ho.symm; subst ho; intro _; replace h := hK2; refine aSq ?_; refine aSR ?_; intro _; refine dr_XDTab ?_; refine aBk ?_; refine awp_loop (α := Nat × Bool × Int) (fun x => mkS 69 [(1, .ptr 1 0 0 0), (3, .c (.bool x.2.1)), (23, .sl 4 (a0.Ops.map cGOp)), (24, .c (.int .i64 ((a0.Ops.map cGOp).length : Int))), (25, .c (.int .i64 x.2.2))] [(1, ⟨26, 4, true, [[.sl 1 (a0.Vars.map cI), .sl 1 (a0.Init.map cI), .sl 2 (a0.Goal.map cF), .sl 4 (a0.Ops.map cGOp)]]⟩)]) (fun x => M_r05_malformed_L2 a0 x.1 x.2.1 x.2.2 = some r1) (fun x => x.1) ((((a0.Ops.map cGOp).length : Int)).toNat + 1, v3, 0) h ?_ ?_
    · exact ca_XDTab
    · intro x6 h; intro _; obtain ⟨k91, m7, h⟩ := succ_of (f := fun n => M_r05_malformed_L2 a0 n x6.2.1 x6.2.2) rfl h; replace h : M_r05_malformed_L2 a0 (k91 + 1) x6.2.1 x6.2.2 = some r1 := h; rw [M_r05_malformed_L2] at h; refine aSR ?_; intro _; refine dr_XDTab ?_; refine aSq ?_; refine aCd ?_; intro _; refine spl h (fun c8 h => ?_) (fun c8 h => ?_)
      · refine aSk ?_; obtain ⟨o9, h, hK10⟩ := ob1_ok h; refine awp_cut (α := Bool) (fun v111 => mkS 69 [(1, .ptr 1 0 0 0), (3, .c (.bool v111)), (23, .sl 4 (a0.Ops.map cGOp)), (24, .c (.int .i64 ((a0.Ops.map cGOp).length : Int))), (25, .c (.int .i64 x6.2.2))] [(1, ⟨26, 4, true, [[.sl 1 (a0.Vars.map cI), .sl 1 (a0.Init.map cI), .sl 2 (a0.Goal.map cF), .sl 4 (a0.Ops.map cGOp)]]⟩)]) (fun v => o9 = v) ?_ ?_
        · refine aBk ?_; refine aSR ?_; intro _; obtain ⟨y113, w11, q12, h⟩ := ix_ok h; refine Exists.intro (cGOp y113) (And.intro (map_at' w11) ?_); intro _; refine pr_XDTab ?_; refine dr_XDTab ?_; obtain ⟨o13, h, hK14⟩ := ob1_ok h; refine awp_cut (α := Bool) (fun v115 => mkS 69 [(1, .ptr 1 0 0 0), (3, .c (.bool v115)), (5, .ptr 5 0 0 0), (23, .sl 4 (a0.Ops.map cGOp)), (24, .c (.int .i64 ((a0.Ops.map cGOp).length : Int))), (25, .c (.int .i64 x6.2.2))] [(1, ⟨26, 4, true, [[.sl 1 (a0.Vars.map cI), .sl 1 (a0.Init.map cI), .sl 2 (a0.Goal.map cF), .sl 4 (a0.Ops.map cGOp)]]⟩), (5, ⟨73, 4, true, [[.c (.string y113.Name), .c (.int .i64 y113.Cost), .sl 2 (y113.Pre.map cF), .sl 3 (y113.Effs.map cGEffect)]]⟩)]) (fun v => o13 = v) ?_ ?_
          · refine aRg ?_; intro _; refine spf h (fun c15 h => ?_) (fun c15 h => ?_)
            · intro _; obtain ⟨z117, u16, h⟩ := ob1_ok h; refine cl_XDTab rfl (A_b_Proper a0.Vars y113.Pre u16) ?_; intro _; refine dr_XDTab ?_; refine ⟨(!z117), (Option.some.inj h).symm, ?_⟩; exact ca_XDTab
            · intro _; refine dr_XDTab ?_; refine ⟨true, (Option.some.inj h).symm, ?_⟩; exact ca_XDTab
          · rintro v115 ho; have ho := ho.symm; subst ho; intro _; replace h := hK14; refine aSR ?_; intro _; refine dr_XDTab ?_; refine aBk ?_; refine awp_loop (α := Nat × Bool × Int) (fun x => mkS 69 [(1, .ptr 1 0 0 0), (3, .c (.bool x.2.1)), (23, .sl 4 (a0.Ops.map cGOp)), (24, .c (.int .i64 ((a0.Ops.map cGOp).length : Int))), (25, .c (.int .i64 x6.2.2)), (39, .sl 3 (y113.Effs.map cGEffect)), (40, .c (.int .i64 ((y113.Effs.map cGEffect).length : Int))), (41, .c (.int .i64 x.2.2))] [(1, ⟨26, 4, true, [[.sl 1 (a0.Vars.map cI), .sl 1 (a0.Init.map cI), .sl 2 (a0.Goal.map cF), .sl 4 (a0.Ops.map cGOp)]]⟩)]) (fun x => M_r05_malformed_L1 a0 y113 x.1 x.2.1 x.2.2 = some o9) (fun x => x.1) ((((y113.Effs.map cGEffect).length : Int)).toNat + 1, v115, 0) h ?_ ?_
            · exact ca_XDTab
            · intro x17 h; intro _; obtain ⟨k128, m18, h⟩ := succ_of (f := fun n => M_r05_malformed_L1 a0 y113 n x17.2.1 x17.2.2) rfl h; replace h : M_r05_malformed_L1 a0 y113 (k128 + 1) x17.2.1 x17.2.2 = some o9 := h; rw [M_r05_malformed_L1] at h; refine aSR ?_; intro _; refine dr_XDTab ?_; refine aSq ?_; refine aCd ?_; intro _; refine spl h (fun c19 h => ?_) (fun c19 h => ?_)
              · refine aSk ?_; refine aSq ?_; refine aBk ?_; refine aSR ?_; intro _; obtain ⟨y129, w20, q21, h⟩ := ix_ok h; refine Exists.intro (cGEffect y129) (And.intro (map_at' w20) ?_); intro _; refine pr_XDTab ?_; refine dr_XDTab ?_; refine aRg ?_; intro _; refine spf h (fun c22 h => ?_) (fun c22 h => ?_)
                · intro _; obtain ⟨z130, u23, h⟩ := ob1_ok h; refine cl_XDTab rfl (A_b_Proper a0.Vars y129.When u23) ?_; intro _; refine spf h (fun c24 h => ?_) (fun c24 h => ?_)
                  · intro _; obtain ⟨z131, u25, h⟩ := ob1_ok h; refine clb_XDTab [62] rfl rfl (A_b_Proper a0.Vars [(y129.Var, y129.Val)] u25) ?_; intro _; refine dr_XDTab ?_; refine aRg ?_; intro _; refine dr_XDTab ?_; refine ⟨(k128, (!z131), (IntKind.i64.wrap (x17.2.2 + 1))), h, ltS m18, ?_⟩; exact ca_XDTab
                  · intro _; refine dr_XDTab ?_; refine aRg ?_; intro _; refine dr_XDTab ?_; refine ⟨(k128, true, (IntKind.i64.wrap (x17.2.2 + 1))), h, ltS m18, ?_⟩; exact ca_XDTab
                · intro _; refine dr_XDTab ?_; refine aRg ?_; intro _; refine dr_XDTab ?_; refine ⟨(k128, true, (IntKind.i64.wrap (x17.2.2 + 1))), h, ltS m18, ?_⟩; exact ca_XDTab
              · refine aEx ?_; refine ⟨x17.2.1, (Option.some.inj h).symm, ?_⟩; exact ca_XDTab
        · rintro v111 ho; have ho := ho.symm; subst ho; intro _; replace h := hK10; refine aRg ?_; intro _; refine dr_XDTab ?_; refine ⟨(k91, v111, (IntKind.i64.wrap (x6.2.2 + 1))), h, ltS m7, ?_⟩; exact ca_XDTab
      · refine aEx ?_; refine aSR ?_; intro _; refine dr_XDTab ?_; refine aRt ?_; intro _; obtain rfl := inj1 h; exact ca_XDTab
def M_r05_misnamed_L1 (y57 : GOp) : Nat → Bool → Int → Option (Bool)
  | 0, _, _ => none
  | k64 + 1, v62, v63 =>
    sel (decide (v63 < (y57.Name.size : Int)))
     (sel v62
       (M_r05_misnamed_L1 y57 k64 true (IntKind.i64.wrap (v63 + 1)))
       (sel (decide ((byt y57.Name v63) < 32))
         (grd (0 ≤ v63) (grd (v63 < (y57.Name.size : Int)) (M_r05_misnamed_L1 y57 k64 true (IntKind.i64.wrap (v63 + 1)))))
         (grd (0 ≤ v63) (grd (v63 < (y57.Name.size : Int)) (M_r05_misnamed_L1 y57 k64 (decide ((byt y57.Name v63) > 126)) (IntKind.i64.wrap (v63 + 1)))))))
     (some v62)
def M_r05_misnamed_L2 (a0 : GTask) : Nat → Bool → Int → Option (Bool)
  | 0, _, _ => none
  | k46 + 1, v44, v45 =>
    sel (decide (v45 < ((a0.Ops.map cGOp).length : Int)))
     (ob1 (ix a0.Ops v45 (fun y57 =>
        ob1 (sel v44
          (some true)
          (some (decide ((y57.Name.size : Int) > 256))) : Option (Bool))
         (fun v58 => M_r05_misnamed_L1 y57 (((y57.Name.size : Int)).toNat + 1) v58 0)) : Option (Bool))
       (fun v55 => M_r05_misnamed_L2 a0 k46 v55 (IntKind.i64.wrap (v45 + 1))))
     (some v44)
def M_r05_misnamed (a0 : GTask) : Option (Bool) :=
  M_r05_misnamed_L2 a0 ((((a0.Ops.map cGOp).length : Int)).toNat + 1) false 0
theorem A_r05_misnamed (a0 : GTask) {r1 : Bool} (h : M_r05_misnamed a0 = some r1) : ACall cx 65 [.agg [.sl 1 (a0.Vars.map cI), .sl 1 (a0.Init.map cI), .sl 2 (a0.Goal.map cF), .sl 4 (a0.Ops.map cGOp)]] (.c (.bool r1)) := by
  refine aOf Tryz.func65 rfl (by decide) rfl (Nat.le_of_ble_eq_true rfl) ?_; intro _; unfold M_r05_misnamed at h; refine aSR ?_; intro _; refine dr_XDTab ?_; refine aSR ?_; intro _; refine dr_XDTab ?_; refine aSq ?_; refine aSR ?_; intro _; refine dr_XDTab ?_; refine aBk ?_; refine awp_loop (α := Nat × Bool × Int) (fun x => mkS 45 [(3, .c (.bool x.2.1)), (8, .sl 4 (a0.Ops.map cGOp)), (9, .c (.int .i64 ((a0.Ops.map cGOp).length : Int))), (10, .c (.int .i64 x.2.2))] []) (fun x => M_r05_misnamed_L2 a0 x.1 x.2.1 x.2.2 = some r1) (fun x => x.1) ((((a0.Ops.map cGOp).length : Int)).toNat + 1, false, 0) h ?_ ?_
  · exact ca_XDTab
  · intro x1 h; intro _; obtain ⟨k46, m2, h⟩ := succ_of (f := fun n => M_r05_misnamed_L2 a0 n x1.2.1 x1.2.2) rfl h; replace h : M_r05_misnamed_L2 a0 (k46 + 1) x1.2.1 x1.2.2 = some r1 := h; rw [M_r05_misnamed_L2] at h; refine aSR ?_; intro _; refine dr_XDTab ?_; refine aSq ?_; refine aCd ?_; intro _; refine spl h (fun c3 h => ?_) (fun c3 h => ?_)
    · refine aSk ?_; obtain ⟨o4, h, hK5⟩ := ob1_ok h; refine awp_cut (α := Bool) (fun v55 => mkS 45 [(3, .c (.bool v55)), (8, .sl 4 (a0.Ops.map cGOp)), (9, .c (.int .i64 ((a0.Ops.map cGOp).length : Int))), (10, .c (.int .i64 x1.2.2))] []) (fun v => o4 = v) ?_ ?_
      · refine aBk ?_; refine aSR ?_; intro _; obtain ⟨y57, w6, q7, h⟩ := ix_ok h; refine Exists.intro (cGOp y57) (And.intro (map_at' w6) ?_); intro _; refine pr_XDTab ?_; refine dr_XDTab ?_; obtain ⟨o8, h, hK9⟩ := ob1_ok h; refine awp_cut (α := Bool) (fun v58 => mkS 45 [(3, .c (.bool v58)), (5, .ptr 5 0 0 0), (8, .sl 4 (a0.Ops.map cGOp)), (9, .c (.int .i64 ((a0.Ops.map cGOp).length : Int))), (10, .c (.int .i64 x1.2.2))] [(5, ⟨73, 4, true, [[.c (.string y57.Name), .c (.int .i64 y57.Cost), .sl 2 (y57.Pre.map cF), .sl 3 (y57.Effs.map cGEffect)]]⟩)]) (fun v => o8 = v) ?_ ?_
        · refine aRg ?_; intro _; refine spf h (fun c10 h => ?_) (fun c10 h => ?_)
          · intro _; refine dr_XDTab ?_; refine ⟨(decide ((y57.Name.size : Int) > 256)), (Option.some.inj h).symm, ?_⟩; exact ca_XDTab
          · intro _; refine dr_XDTab ?_; refine ⟨true, (Option.some.inj h).symm, ?_⟩; exact ca_XDTab
        · rintro v58 ho; have ho := ho.symm; subst ho; intro _; replace h := hK9; refine aSR ?_; intro _; refine dr_XDTab ?_; refine aBk ?_; refine awp_loop (α := Nat × Bool × Int) (fun x => mkS 45 [(3, .c (.bool x.2.1)), (5, .ptr 5 0 0 0), (8, .sl 4 (a0.Ops.map cGOp)), (9, .c (.int .i64 ((a0.Ops.map cGOp).length : Int))), (10, .c (.int .i64 x1.2.2)), (23, .c (.int .i64 (y57.Name.size : Int))), (24, .c (.int .i64 x.2.2))] [(5, ⟨73, 4, true, [[.c (.string y57.Name), .c (.int .i64 y57.Cost), .sl 2 (y57.Pre.map cF), .sl 3 (y57.Effs.map cGEffect)]]⟩)]) (fun x => M_r05_misnamed_L1 y57 x.1 x.2.1 x.2.2 = some o4) (fun x => x.1) (((y57.Name.size : Int)).toNat + 1, v58, 0) h ?_ ?_
          · exact ca_XDTab
          · intro x11 h; intro _; obtain ⟨k64, m12, h⟩ := succ_of (f := fun n => M_r05_misnamed_L1 y57 n x11.2.1 x11.2.2) rfl h; replace h : M_r05_misnamed_L1 y57 (k64 + 1) x11.2.1 x11.2.2 = some o4 := h; rw [M_r05_misnamed_L1] at h; refine aSR ?_; intro _; refine dr_XDTab ?_; refine aSq ?_; refine aCd ?_; intro _; refine spl h (fun c13 h => ?_) (fun c13 h => ?_)
            · refine aSk ?_; refine aSq ?_; refine aBk ?_; refine aSR ?_; intro _; refine dr_XDTab ?_; refine aRg ?_; intro _; refine spf h (fun c14 h => ?_) (fun c14 h => ?_)
              · intro _; refine spf h (fun c15 h => ?_) (fun c15 h => ?_)
                · intro _; obtain ⟨q16, h⟩ := grd_ok h; obtain ⟨q17, h⟩ := grd_ok h; refine pr_XDTab ?_; refine pr_XDTab ?_; refine pr_XDTab ?_; refine pr_XDTab ?_; refine dr_XDTab ?_; refine aRg ?_; intro _; refine dr_XDTab ?_; refine ⟨(k64, (decide ((byt y57.Name x11.2.2) > 126)), (IntKind.i64.wrap (x11.2.2 + 1))), h, ltS m12, ?_⟩; exact ca_XDTab
                · intro _; obtain ⟨q18, h⟩ := grd_ok h; obtain ⟨q19, h⟩ := grd_ok h; refine pr_XDTab ?_; refine pr_XDTab ?_; refine dr_XDTab ?_; refine aRg ?_; intro _; refine dr_XDTab ?_; refine ⟨(k64, true, (IntKind.i64.wrap (x11.2.2 + 1))), h, ltS m12, ?_⟩; exact ca_XDTab
              · intro _; refine dr_XDTab ?_; refine aRg ?_; intro _; refine dr_XDTab ?_; refine ⟨(k64, true, (IntKind.i64.wrap (x11.2.2 + 1))), h, ltS m12, ?_⟩; exact ca_XDTab
            · refine aEx ?_; refine ⟨x11.2.1, (Option.some.inj h).symm, ?_⟩; exact ca_XDTab
      · rintro v55 ho; have ho := ho.symm; subst ho; intro _; replace h := hK5; refine aRg ?_; intro _; refine dr_XDTab ?_; refine ⟨(k46, v55, (IntKind.i64.wrap (x1.2.2 + 1))), h, ltS m2, ?_⟩; exact ca_XDTab
    · refine aEx ?_; refine aSR ?_; intro _; refine dr_XDTab ?_; refine aRt ?_; intro _; obtain rfl := inj1 h; exact ca_XDTab
def M_r05_Check (a0 : GTask) : Option (Int) :=
  ob1 (M_r05_large a0) (fun z1 =>
   sel z1
    (some 5)
    (ob1 (M_r05_outside a0) (fun z2 =>
      sel z2
       (some 1)
       (ob1 (M_r05_malformed a0) (fun z3 =>
         sel z3
          (some 2)
          (ob1 (M_r05_misnamed a0) (fun z4 =>
            sel z4
             (some 8)
             (some 0))))))))
theorem A_r05_Check (a0 : GTask) {r1 : Int} (h : M_r05_Check a0 = some r1) : ACall cx 33 [.agg [.sl 1 (a0.Vars.map cI), .sl 1 (a0.Init.map cI), .sl 2 (a0.Goal.map cF), .sl 4 (a0.Ops.map cGOp)]] (.c (.int .i64 r1)) := by
  refine aOf Tryz.func33 rfl (by decide) rfl (Nat.le_of_ble_eq_true rfl) ?_; intro _; unfold M_r05_Check at h; refine aSR ?_; intro _; refine dr_XDTab ?_; refine aSq ?_; refine aBk ?_; refine aSR ?_; intro _; obtain ⟨z1, u1, h⟩ := ob1_ok h; refine cl_XDTab rfl (A_r05_large a0 u1) ?_; intro _; refine dr_XDTab ?_; refine aCd ?_; intro _; refine spl h (fun c2 h => ?_) (fun c2 h => ?_)
  · refine aSR ?_; intro _; refine dr_XDTab ?_; refine aRt ?_; intro _; obtain rfl := inj1 h; exact ca_XDTab
  · refine aSR ?_; intro _; obtain ⟨z2, u3, h⟩ := ob1_ok h; refine cl_XDTab rfl (A_r05_outside a0 u3) ?_; intro _; refine dr_XDTab ?_; refine aCd ?_; intro _; refine spl h (fun c4 h => ?_) (fun c4 h => ?_)
    · refine aSR ?_; intro _; refine dr_XDTab ?_; refine aRt ?_; intro _; obtain rfl := inj1 h; exact ca_XDTab
    · refine aSR ?_; intro _; obtain ⟨z3, u5, h⟩ := ob1_ok h; refine cl_XDTab rfl (A_r05_malformed a0 u5) ?_; intro _; refine dr_XDTab ?_; refine aCd ?_; intro _; refine spl h (fun c6 h => ?_) (fun c6 h => ?_)
      · refine aSR ?_; intro _; refine dr_XDTab ?_; refine aRt ?_; intro _; obtain rfl := inj1 h; exact ca_XDTab
      · refine aSR ?_; intro _; obtain ⟨z4, u7, h⟩ := ob1_ok h; refine cl_XDTab rfl (A_r05_misnamed a0 u7) ?_; intro _; refine dr_XDTab ?_; refine aCd ?_; intro _; refine spl h (fun c8 h => ?_) (fun c8 h => ?_)
        · refine aSR ?_; intro _; refine dr_XDTab ?_; refine aRt ?_; intro _; obtain rfl := inj1 h; exact ca_XDTab
        · refine aSk ?_; refine aSR ?_; intro _; refine dr_XDTab ?_; refine aRt ?_; intro _; obtain rfl := inj1 h; exact ca_XDTab
def M_r32_right_L1 (a0 : GTask) (a1 : List Int) : Nat → Int → Option (Bool)
  | 0, _ => none
  | k6 + 1, v5 =>
    sel (decide (v5 < ((a1.map cI).length : Int)))
     (ix a1 v5 (fun y7 =>
       sel (decide (y7 < 0))
        (some false)
        (sel (decide (y7 ≥ ((a0.Vars.map cI).length : Int)))
          (some false)
          (sel (decide (v5 > 0))
            (ix a1 (IntKind.i64.wrap (v5 - 1)) (fun y8 =>
              sel (decide (y8 ≥ y7))
               (some false)
               (M_r32_right_L1 a0 a1 k6 (IntKind.i64.wrap (v5 + 1)))))
            (M_r32_right_L1 a0 a1 k6 (IntKind.i64.wrap (v5 + 1)))))))
     (some true)
def M_r32_right (a0 : GTask) (a1 : List Int) : Option (Bool) :=
  M_r32_right_L1 a0 a1 ((((a1.map cI).length : Int)).toNat + 1) 0
theorem A_r32_right (a0 : GTask) (a1 : List Int) {r1 : Bool} (h : M_r32_right a0 a1 = some r1) : ACall cx 53 [.agg [.sl 1 (a0.Vars.map cI), .sl 1 (a0.Init.map cI), .sl 2 (a0.Goal.map cF), .sl 4 (a0.Ops.map cGOp)], .sl 1 (a1.map cI)] (.c (.bool r1)) := by
  refine aOf Tryz.func53 rfl (by decide) rfl (Nat.le_of_ble_eq_true rfl) ?_; intro _; unfold M_r32_right at h; refine aSR ?_; intro _; refine dr_XDTab ?_; refine aSq ?_; refine aSR ?_; intro _; refine dr_XDTab ?_; refine aBk ?_; refine awp_loop (α := Nat × Int) (fun x => mkS 37 [(1, .sl 1 (a1.map cI)), (2, .ptr 2 0 0 0), (7, .sl 1 (a1.map cI)), (8, .c (.int .i64 ((a1.map cI).length : Int))), (9, .c (.int .i64 x.2))] [(2, ⟨26, 4, true, [[.sl 1 (a0.Vars.map cI), .sl 1 (a0.Init.map cI), .sl 2 (a0.Goal.map cF), .sl 4 (a0.Ops.map cGOp)]]⟩)]) (fun x => M_r32_right_L1 a0 a1 x.1 x.2 = some r1) (fun x => x.1) ((((a1.map cI).length : Int)).toNat + 1, 0) h ?_ ?_
  · exact ca_XDTab
  · intro x1 h; intro _; obtain ⟨k6, m2, h⟩ := succ_of (f := fun n => M_r32_right_L1 a0 a1 n x1.2) rfl h; replace h : M_r32_right_L1 a0 a1 (k6 + 1) x1.2 = some r1 := h; rw [M_r32_right_L1] at h; refine aSR ?_; intro _; refine dr_XDTab ?_; refine aSq ?_; refine aCd ?_; intro _; refine spl h (fun c3 h => ?_) (fun c3 h => ?_)
    · refine aSk ?_; refine aSq ?_; refine aBk ?_; refine aSR ?_; intro _; obtain ⟨y7, w4, q5, h⟩ := ix_ok h; refine Exists.intro (cI y7) (And.intro (map_at' w4) ?_); intro _; refine pr_XDTab ?_; refine dr_XDTab ?_; refine aSR ?_; intro _; refine spf h (fun c6 h => ?_) (fun c6 h => ?_)
      · intro _; refine spf h (fun c7 h => ?_) (fun c7 h => ?_)
        · intro _; refine spl h (fun c8 h => ?_) (fun c8 h => ?_)
          · intro _; obtain ⟨y8, w9, q10, h⟩ := ix_ok h; refine Exists.intro (cI y8) (And.intro (map_at' w9) ?_); intro _; refine pr_XDTab ?_; refine dr_XDTab ?_; refine aCd ?_; intro _; refine spl h (fun c11 h => ?_) (fun c11 h => ?_)
            · refine aSR ?_; intro _; refine dr_XDTab ?_; refine aRt ?_; intro _; obtain rfl := inj1 h; exact ca_XDTab
            · refine aSk ?_; refine aRg ?_; intro _; refine dr_XDTab ?_; refine ⟨(k6, (IntKind.i64.wrap (x1.2 + 1))), h, ltS m2, ?_⟩; exact ca_XDTab
          · intro _; refine dr_XDTab ?_; refine aCd ?_; intro _; refine litF ?_; refine aSk ?_; refine aRg ?_; intro _; refine dr_XDTab ?_; refine ⟨(k6, (IntKind.i64.wrap (x1.2 + 1))), h, ltS m2, ?_⟩; exact ca_XDTab
        · intro _; refine dr_XDTab ?_; refine aCd ?_; intro _; refine litT ?_; refine aSR ?_; intro _; refine dr_XDTab ?_; refine aRt ?_; intro _; obtain rfl := inj1 h; exact ca_XDTab
      · intro _; refine dr_XDTab ?_; refine aCd ?_; intro _; refine litT ?_; refine aSR ?_; intro _; refine dr_XDTab ?_; refine aRt ?_; intro _; obtain rfl := inj1 h; exact ca_XDTab
    · refine aEx ?_; refine aSR ?_; intro _; refine dr_XDTab ?_; refine aRt ?_; intro _; obtain rfl := inj1 h; exact ca_XDTab
def M_r32_Sizes_L1 (a0 : GTask) (a1 : List Int) : Nat → Int → (List Int) → Option (List Int)
  | 0, _, _ => none
  | k9 + 1, v7, v8 =>
    sel (decide (v7 < ((a1.map cI).length : Int)))
     (ix a1 v7 (fun y10 =>
       ix a0.Vars y10 (fun y11 =>
        grd ((v8.length + 1) * 8 ≤ 140737488355328) (M_r32_Sizes_L1 a0 a1 k9 (IntKind.i64.wrap (v7 + 1)) (v8 ++ [y11])))))
     (grd (v8.length ≤ 140737488355328) (some v8))
def M_r32_Sizes (a0 : GTask) (a1 : List Int) : Option (List Int) :=
  M_r32_Sizes_L1 a0 a1 ((((a1.map cI).length : Int)).toNat + 1) 0 []
theorem A_r32_Sizes (a0 : GTask) (a1 : List Int) {r1 : List Int} (h : M_r32_Sizes a0 a1 = some r1) : ACall cx 54 [.agg [.sl 1 (a0.Vars.map cI), .sl 1 (a0.Init.map cI), .sl 2 (a0.Goal.map cF), .sl 4 (a0.Ops.map cGOp)], .sl 1 (a1.map cI)] (.sl 1 (r1.map cI)) := by
  refine aOf Tryz.func54 rfl (by decide) rfl (Nat.le_of_ble_eq_true rfl) ?_; intro _; unfold M_r32_Sizes at h; refine aSR ?_; intro _; refine dr_XDTab ?_; refine aSR ?_; intro _; refine dr_XDTab ?_; refine aSq ?_; refine aSR ?_; intro _; refine dr_XDTab ?_; refine aBk ?_; refine awp_loop (α := Nat × Int × (List Int)) (fun x => mkS 24 [(2, .ptr 2 0 0 0), (5, .own 21 0 0 x.2.2.length), (8, .sl 1 (a1.map cI)), (9, .c (.int .i64 ((a1.map cI).length : Int))), (10, .c (.int .i64 x.2.1))] [(2, ⟨26, 4, true, [[.sl 1 (a0.Vars.map cI), .sl 1 (a0.Init.map cI), .sl 2 (a0.Goal.map cF), .sl 4 (a0.Ops.map cGOp)]]⟩), (21, ⟨3, 1, false, x.2.2.map cI⟩)]) (fun x => M_r32_Sizes_L1 a0 a1 x.1 x.2.1 x.2.2 = some r1) (fun x => x.1) ((((a1.map cI).length : Int)).toNat + 1, 0, []) h ?_ ?_
  · exact ca_XDTab
  · intro x1 h; intro _; obtain ⟨k9, m2, h⟩ := succ_of (f := fun n => M_r32_Sizes_L1 a0 a1 n x1.2.1 x1.2.2) rfl h; replace h : M_r32_Sizes_L1 a0 a1 (k9 + 1) x1.2.1 x1.2.2 = some r1 := h; rw [M_r32_Sizes_L1] at h; refine aSR ?_; intro _; refine dr_XDTab ?_; refine aSq ?_; refine aCd ?_; intro _; refine spl h (fun c3 h => ?_) (fun c3 h => ?_)
    · refine aSk ?_; refine aSq ?_; refine aBk ?_; refine aSR ?_; intro _; obtain ⟨y10, w4, q5, h⟩ := ix_ok h; refine Exists.intro (cI y10) (And.intro (map_at' w4) ?_); intro _; refine pr_XDTab ?_; refine dr_XDTab ?_; refine aRg ?_; intro _; obtain ⟨y11, w6, q7, h⟩ := ix_ok h; refine Exists.intro (cI y11) (And.intro (map_at' w6) ?_); intro _; obtain ⟨q8, h⟩ := grd_ok h; refine pr_XDTab ?_; refine pl_XDTab ?_; refine pl_XDTab ?_; refine And.intro (by first | with_reducible assumption | (show (x1.2.2.length + 1) * 8 ≤ 140737488355328; with_reducible assumption) | omega | (simp; omega)) ?_; refine pe_XDTab ?_; refine dr_XDTab ?_; refine aRg ?_; intro _; refine dr_XDTab ?_; refine ⟨(k9, (IntKind.i64.wrap (x1.2.1 + 1)), (x1.2.2 ++ [y11])), h, ltS m2, ?_⟩; exact ca_XDTab
    · refine aEx ?_; refine aSR ?_; intro _; refine dr_XDTab ?_; refine aRt ?_; obtain ⟨q9, h⟩ := grd_ok h; intro _; obtain rfl := inj1 h; exact ca_XDTab
def M_r32_FromTable_L1 (a2 : List Int) : Nat → Bool → Int → Option (Bool)
  | 0, _, _ => none
  | k23 + 1, v21, v22 =>
    sel (decide (v22 < ((a2.map cI).length : Int)))
     (ix a2 v22 (fun y24 =>
       sel v21
        (M_r32_FromTable_L1 a2 k23 true (IntKind.i64.wrap (v22 + 1)))
        (sel (decide (y24 < 0))
          (M_r32_FromTable_L1 a2 k23 true (IntKind.i64.wrap (v22 + 1)))
          (M_r32_FromTable_L1 a2 k23 (decide (y24 > 1125899906842624)) (IntKind.i64.wrap (v22 + 1))))))
     (some v21)
def M_r32_FromTable_L2 (a1 : List Int) (y458 : List Int) : Nat → Int → (List Fact) → Option (List Fact)
  | 0, _, _ => none
  | k492 + 1, v490, v491 =>
    sel (decide (v490 < ((a1.map cI).length : Int)))
     (ix a1 v490 (fun y493 =>
       ix y458 v490 (fun y494 =>
        grd ((v491.length + 1) * 16 ≤ 140737488355328) (M_r32_FromTable_L2 a1 y458 k492 (IntKind.i64.wrap (v490 + 1)) (v491 ++ [(y493, y494)])))))
     (some v491)
def M_r32_FromTable_L3 (a1 : List Int) (a2 : List Int) (a3 : Int) (z261 : List (List Int)) : Nat → Int → (List Nogood) → Option (List Nogood)
  | 0, _, _ => none
  | k418 + 1, v416, v417 =>
    sel (decide (v416 < ((z261.map cL_cI).length : Int)))
     (ob1 (ix z261 v416 (fun y458 =>
        ix a2 v416 (fun y459 =>
         ob1 (sel (decide (a3 < 0))
           (some 0)
           (some y459) : Option (Int))
          (fun v460 => ob1 (sel (decide (a3 ≥ 0))
              (ix a2 v416 (fun y468 =>
                sel (decide (y468 ≥ a3))
                 (some (.inr ()))
                 (ix a2 v416 (fun y469 =>
                   sel (y469 == 1125899906842624)
                    (some (.inr ()))
                    (some (.inl (y469, (y469 == 1125899906842624))))))))
              (ix a2 v416 (fun y470 =>
                sel (y470 == 1125899906842624)
                 (some (.inr ()))
                 (some (.inl (y470, (y470 == 1125899906842624)))))) : Option ((Int × Bool) ⊕ Unit))
             (osum
             (fun (_, _) => ob1 (M_r32_FromTable_L2 a1 y458 ((((a1.map cI).length : Int)).toNat + 1) 0 [] : Option (List Fact))
                (fun v482 => grd ((v417.length + 1) * 32 ≤ 140737488355328) (grd (v482.length ≤ 140737488355328) (some (v417 ++ [(v482, v460)])))))
             (fun _ => some v417))))) : Option (List Nogood))
       (fun v456 => M_r32_FromTable_L3 a1 a2 a3 z261 k418 (IntKind.i64.wrap (v416 + 1)) v456))
     (some v417)
def M_r32_FromTable (a0 : GTask) (a1 : List Int) (a2 : List Int) (a3 : Int) : Option (GCertificate × Int) :=
  ob1 (M_r05_Check a0) (fun z1 =>
   sel (z1 != 0)
    (some ({ Bound := 0, Nogoods := [] : GCertificate }, z1))
    (ob1 (M_r32_right a0 a1) (fun z2 =>
      sel (!z2)
       (some ({ Bound := 0, Nogoods := [] : GCertificate }, 2))
       (ob1 (M_r32_Sizes a0 a1) (fun z3 =>
         ob1 (M_b_Many z3 ((a2.map cI).length : Int)) (fun z4 =>
          sel (z4 != ((a2.map cI).length : Int))
           (some ({ Bound := 0, Nogoods := [] : GCertificate }, 11))
           (ob1 (sel (decide (a3 < (-1)))
              (some true)
              (some (decide (a3 > 1099511627776))) : Option (Bool))
             (fun v5 => ob1 (M_r32_FromTable_L1 a2 ((((a2.map cI).length : Int)).toNat + 1) v5 0 : Option (Bool))
                (fun v15 => sel v15
                   (some ({ Bound := 0, Nogoods := [] : GCertificate }, 1))
                   (ob1 (ob1 (M_b_States z3) (fun z261 =>
                      M_r32_FromTable_L3 a1 a2 a3 z261 ((((z261.map cL_cI).length : Int)).toNat + 1) 0 []) : Option (List Nogood))
                     (fun v259 => sel (decide (((v259.length : Nat) : Int) > 4096))
                        (some ({ Bound := 0, Nogoods := [] : GCertificate }, 5))
                        (grd (v259.length ≤ 140737488355328) (some ({ Bound := a3, Nogoods := v259 : GCertificate }, 0))))))))))))))
theorem A_r32_FromTable (a0 : GTask) (a1 : List Int) (a2 : List Int) (a3 : Int) {r1 : GCertificate} {r2 : Int} (h : M_r32_FromTable a0 a1 a2 a3 = some (r1, r2)) : ACall cx 22 [.agg [.sl 1 (a0.Vars.map cI), .sl 1 (a0.Init.map cI), .sl 2 (a0.Goal.map cF), .sl 4 (a0.Ops.map cGOp)], .sl 1 (a1.map cI), .sl 1 (a2.map cI), .c (.int .i64 a3)] (.tup [.agg [.c (.int .i64 r1.Bound), .sl 2 (r1.Nogoods.map cN)], .c (.int .i64 r2)]) := by
  refine aOf Tryz.func22 rfl (by decide) rfl (Nat.le_of_ble_eq_true rfl) ?_; intro _; unfold M_r32_FromTable at h; refine aSR ?_; intro _; refine dr_XDTab ?_; refine aSq ?_; refine aSR ?_; intro _; obtain ⟨z1, u1, h⟩ := ob1_ok h; refine cl_XDTab rfl (A_r05_Check a0 u1) ?_; intro _; refine dr_XDTab ?_; refine aSR ?_; intro _; refine dr_XDTab ?_; refine aCd ?_; intro _; refine spl h (fun c2 h => ?_) (fun c2 h => ?_)
  · refine aSR ?_; intro _; refine dr_XDTab ?_; refine aRt ?_; intro _; obtain ⟨rfl, rfl⟩ := inj2 h; exact ca_XDTab
  · refine aSk ?_; refine aSq ?_; refine aSR ?_; intro _; obtain ⟨z2, u3, h⟩ := ob1_ok h; refine cl_XDTab rfl (A_r32_right a0 a1 u3) ?_; intro _; refine dr_XDTab ?_; refine aCd ?_; intro _; refine spl h (fun c4 h => ?_) (fun c4 h => ?_)
    · refine aSR ?_; intro _; refine dr_XDTab ?_; refine aRt ?_; intro _; obtain ⟨rfl, rfl⟩ := inj2 h; exact ca_XDTab
    · refine aSk ?_; refine aSR ?_; intro _; obtain ⟨z3, u5, h⟩ := ob1_ok h; refine cl_XDTab rfl (A_r32_Sizes a0 a1 u5) ?_; intro _; refine dr_XDTab ?_; refine aSq ?_; refine aSR ?_; intro _; obtain ⟨z4, u6, h⟩ := ob1_ok h; refine cl_XDTab rfl (A_b_Many z3 ((a2.map cI).length : Int) u6) ?_; intro _; refine dr_XDTab ?_; refine aCd ?_; intro _; refine spl h (fun c7 h => ?_) (fun c7 h => ?_)
      · refine aSR ?_; intro _; refine dr_XDTab ?_; refine aRt ?_; intro _; obtain ⟨rfl, rfl⟩ := inj2 h; exact ca_XDTab
      · refine aSk ?_; obtain ⟨o8, h, hK9⟩ := ob1_ok h; refine awp_cut (α := Bool) (fun v5 => mkS 134 [(1, .sl 1 (a1.map cI)), (2, .sl 1 (a2.map cI)), (3, .c (.int .i64 a3)), (8, .ptr 8 0 0 0), (11, .sl 1 (z3.map cI)), (12, .c (.bool v5))] [(8, ⟨31, 2, true, [[.c (.int .i64 0), .c (.slice none 0 0)]]⟩)]) (fun v => o8 = v) ?_ ?_
        · refine aRg ?_; intro _; refine spf h (fun c10 h => ?_) (fun c10 h => ?_)
          · intro _; refine dr_XDTab ?_; refine ⟨(decide (a3 > 1099511627776)), (Option.some.inj h).symm, ?_⟩; exact ca_XDTab
          · intro _; refine dr_XDTab ?_; refine ⟨true, (Option.some.inj h).symm, ?_⟩; exact ca_XDTab
        · rintro v5 ho; have ho := ho.symm; subst ho; intro _; replace h := hK9; obtain ⟨o11, h, hK12⟩ := ob1_ok h; refine awp_cut (α := Bool) (fun v15 => mkS 134 [(1, .sl 1 (a1.map cI)), (2, .sl 1 (a2.map cI)), (3, .c (.int .i64 a3)), (8, .ptr 8 0 0 0), (11, .sl 1 (z3.map cI)), (12, .c (.bool v15))] [(8, ⟨31, 2, true, [[.c (.int .i64 0), .c (.slice none 0 0)]]⟩)]) (fun v => o11 = v) ?_ ?_
          · refine aSR ?_; intro _; refine dr_XDTab ?_; refine aBk ?_; refine awp_loop (α := Nat × Bool × Int) (fun x => mkS 134 [(1, .sl 1 (a1.map cI)), (2, .sl 1 (a2.map cI)), (3, .c (.int .i64 a3)), (8, .ptr 8 0 0 0), (11, .sl 1 (z3.map cI)), (12, .c (.bool x.2.1)), (49, .sl 1 (a2.map cI)), (50, .c (.int .i64 ((a2.map cI).length : Int))), (51, .c (.int .i64 x.2.2))] [(8, ⟨31, 2, true, [[.c (.int .i64 0), .c (.slice none 0 0)]]⟩)]) (fun x => M_r32_FromTable_L1 a2 x.1 x.2.1 x.2.2 = some o11) (fun x => x.1) ((((a2.map cI).length : Int)).toNat + 1, v5, 0) h ?_ ?_
            · exact ca_XDTab
            · intro x13 h; intro _; obtain ⟨k23, m14, h⟩ := succ_of (f := fun n => M_r32_FromTable_L1 a2 n x13.2.1 x13.2.2) rfl h; replace h : M_r32_FromTable_L1 a2 (k23 + 1) x13.2.1 x13.2.2 = some o11 := h; rw [M_r32_FromTable_L1] at h; refine aSR ?_; intro _; refine dr_XDTab ?_; refine aSq ?_; refine aCd ?_; intro _; refine spl h (fun c15 h => ?_) (fun c15 h => ?_)
              · refine aSk ?_; refine aSq ?_; refine aBk ?_; refine aSR ?_; intro _; obtain ⟨y24, w16, q17, h⟩ := ix_ok h; refine Exists.intro (cI y24) (And.intro (map_at' w16) ?_); intro _; refine pr_XDTab ?_; refine dr_XDTab ?_; refine aRg ?_; intro _; refine spf h (fun c18 h => ?_) (fun c18 h => ?_)
                · intro _; refine spf h (fun c19 h => ?_) (fun c19 h => ?_)
                  · intro _; refine dr_XDTab ?_; refine aRg ?_; intro _; refine dr_XDTab ?_; refine ⟨(k23, (decide (y24 > 1125899906842624)), (IntKind.i64.wrap (x13.2.2 + 1))), h, ltS m14, ?_⟩; exact ca_XDTab
                  · intro _; refine dr_XDTab ?_; refine aRg ?_; intro _; refine dr_XDTab ?_; refine ⟨(k23, true, (IntKind.i64.wrap (x13.2.2 + 1))), h, ltS m14, ?_⟩; exact ca_XDTab
                · intro _; refine dr_XDTab ?_; refine aRg ?_; intro _; refine dr_XDTab ?_; refine ⟨(k23, true, (IntKind.i64.wrap (x13.2.2 + 1))), h, ltS m14, ?_⟩; exact ca_XDTab
              · refine aEx ?_; refine ⟨x13.2.1, (Option.some.inj h).symm, ?_⟩; exact ca_XDTab
          · rintro v15 ho; have ho := ho.symm; subst ho; intro _; replace h := hK12; refine aSq ?_; refine aSR ?_; intro _; refine dr_XDTab ?_; refine aCd ?_; intro _; refine spl h (fun c20 h => ?_) (fun c20 h => ?_)
            · refine aSR ?_; intro _; refine dr_XDTab ?_; refine aRt ?_; intro _; obtain ⟨rfl, rfl⟩ := inj2 h; exact ca_XDTab
            · refine aSk ?_; refine aSR ?_; intro _; refine dr_XDTab ?_; obtain ⟨o21, h, hK22⟩ := ob1_ok h; refine awp_cut (α := List Nogood) (fun v259 => mkS 134 [(8, .ptr 8 0 0 0), (15, .ptr 15 0 0 0)] [(8, ⟨31, 2, true, [[.c (.int .i64 0), .c (.slice none 0 0)]]⟩), (15, ⟨31, 2, true, [[.c (.int .i64 a3), .own 125 0 0 v259.length]]⟩), (125, ⟨40, 2, false, v259.map cN⟩)]) (fun v => o21 = v) ?_ ?_
              · refine aSR ?_; intro _; obtain ⟨z261, u23, h⟩ := ob1_ok h; refine cl_XDTab rfl (A_b_States z3 u23) ?_; intro _; refine dr_XDTab ?_; refine aBk ?_; refine awp_loop (α := Nat × Int × (List Nogood)) (fun x => mkS 134 [(1, .sl 1 (a1.map cI)), (2, .sl 1 (a2.map cI)), (3, .c (.int .i64 a3)), (8, .ptr 8 0 0 0), (15, .ptr 15 0 0 0), (70, .sl 1 (z261.map cL_cI)), (71, .c (.int .i64 ((z261.map cL_cI).length : Int))), (72, .c (.int .i64 x.2.1))] [(8, ⟨31, 2, true, [[.c (.int .i64 0), .c (.slice none 0 0)]]⟩), (15, ⟨31, 2, true, [[.c (.int .i64 a3), .own 125 0 0 x.2.2.length]]⟩), (125, ⟨40, 2, false, x.2.2.map cN⟩)]) (fun x => M_r32_FromTable_L3 a1 a2 a3 z261 x.1 x.2.1 x.2.2 = some o21) (fun x => x.1) ((((z261.map cL_cI).length : Int)).toNat + 1, 0, []) h ?_ ?_
                · exact ca_XDTab
                · intro x24 h; intro _; obtain ⟨k418, m25, h⟩ := succ_of (f := fun n => M_r32_FromTable_L3 a1 a2 a3 z261 n x24.2.1 x24.2.2) rfl h; replace h : M_r32_FromTable_L3 a1 a2 a3 z261 (k418 + 1) x24.2.1 x24.2.2 = some o21 := h; rw [M_r32_FromTable_L3] at h; refine aSR ?_; intro _; refine dr_XDTab ?_; refine aSq ?_; refine aCd ?_; intro _; refine spl h (fun c26 h => ?_) (fun c26 h => ?_)
                  · refine aSk ?_; obtain ⟨o27, h, hK28⟩ := ob1_ok h; refine awp_cut (α := List Nogood) (fun v456 => mkS 134 [(1, .sl 1 (a1.map cI)), (2, .sl 1 (a2.map cI)), (3, .c (.int .i64 a3)), (8, .ptr 8 0 0 0), (15, .ptr 15 0 0 0), (70, .sl 1 (z261.map cL_cI)), (71, .c (.int .i64 ((z261.map cL_cI).length : Int))), (72, .c (.int .i64 x24.2.1))] [(8, ⟨31, 2, true, [[.c (.int .i64 0), .c (.slice none 0 0)]]⟩), (15, ⟨31, 2, true, [[.c (.int .i64 a3), .own 125 0 0 v456.length]]⟩), (125, ⟨40, 2, false, v456.map cN⟩)]) (fun v => o27 = v) ?_ ?_
                    · refine aBk ?_; refine aSR ?_; intro _; obtain ⟨y458, w29, q30, h⟩ := ix_ok h; refine Exists.intro (cL_cI y458) (And.intro (map_at' w29) ?_); intro _; refine pr_XDTab ?_; refine dr_XDTab ?_; refine aSR ?_; intro _; obtain ⟨y459, w31, q32, h⟩ := ix_ok h; refine Exists.intro (cI y459) (And.intro (map_at' w31) ?_); intro _; refine pr_XDTab ?_; refine dr_XDTab ?_; obtain ⟨o33, h, hK34⟩ := ob1_ok h; refine awp_cut (α := Int) (fun v460 => mkS 134 [(1, .sl 1 (a1.map cI)), (2, .sl 1 (a2.map cI)), (3, .c (.int .i64 a3)), (8, .ptr 8 0 0 0), (15, .ptr 15 0 0 0), (16, .c (.int .i64 x24.2.1)), (17, .sl 1 (y458.map cI)), (18, .ptr 18 0 0 0), (70, .sl 1 (z261.map cL_cI)), (71, .c (.int .i64 ((z261.map cL_cI).length : Int))), (72, .c (.int .i64 x24.2.1))] [(8, ⟨31, 2, true, [[.c (.int .i64 0), .c (.slice none 0 0)]]⟩), (15, ⟨31, 2, true, [[.c (.int .i64 a3), .own 125 0 0 x24.2.2.length]]⟩), (18, ⟨40, 2, true, [[.c (.slice none 0 0), .c (.int .i64 v460)]]⟩), (125, ⟨40, 2, false, x24.2.2.map cN⟩)]) (fun v => o33 = v) ?_ ?_
                      · refine aSR ?_; intro _; refine dr_XDTab ?_; refine aCd ?_; intro _; refine spl h (fun c35 h => ?_) (fun c35 h => ?_)
                        · refine aRg ?_; intro _; refine dr_XDTab ?_; refine ⟨0, (Option.some.inj h).symm, ?_⟩; exact ca_XDTab
                        · refine aSk ?_; refine ⟨y459, (Option.some.inj h).symm, ?_⟩; exact ca_XDTab
                      · rintro v460 ho; have ho := ho.symm; subst ho; intro _; replace h := hK34; obtain ⟨o36, h, hK37⟩ := ob1_ok h; refine awp_cut (α := Int × Bool) (fun (v465, v466) => mkS 134 [(1, .sl 1 (a1.map cI)), (2, .sl 1 (a2.map cI)), (3, .c (.int .i64 a3)), (8, .ptr 8 0 0 0), (15, .ptr 15 0 0 0), (17, .sl 1 (y458.map cI)), (18, .ptr 18 0 0 0), (70, .sl 1 (z261.map cL_cI)), (71, .c (.int .i64 ((z261.map cL_cI).length : Int))), (72, .c (.int .i64 x24.2.1)), (96, .sl 1 (a2.map cI)), (97, .c (.int .i64 x24.2.1)), (99, .c (.int .i64 v465)), (100, .c (.bool v466))] [(8, ⟨31, 2, true, [[.c (.int .i64 0), .c (.slice none 0 0)]]⟩), (15, ⟨31, 2, true, [[.c (.int .i64 a3), .own 125 0 0 x24.2.2.length]]⟩), (18, ⟨40, 2, true, [[.c (.slice none 0 0), .c (.int .i64 v460)]]⟩), (125, ⟨40, 2, false, x24.2.2.map cN⟩)]) (fun v => o36 = (.inl v)) ?_ ?_
                        · refine aSR ?_; intro _; refine spl h (fun c38 h => ?_) (fun c38 h => ?_)
                          · intro _; obtain ⟨y468, w39, q40, h⟩ := ix_ok h; refine Exists.intro (cI y468) (And.intro (map_at' w39) ?_); intro _; refine spf h (fun c41 h => ?_) (fun c41 h => ?_)
                            · intro _; obtain ⟨y469, w42, q43, h⟩ := ix_ok h; refine Exists.intro (cI y469) (And.intro (map_at' w42) ?_); intro _; refine pr_XDTab ?_; refine pr_XDTab ?_; refine dr_XDTab ?_; refine aCd ?_; intro _; refine spl h (fun c44 h => ?_) (fun c44 h => ?_)
                              · refine aEx ?_; have j45 := Option.some.inj h; subst j45; replace h := (osum_r hK37); refine ⟨x24.2.2, (Option.some.inj h).symm, ?_⟩; exact ca_XDTab
                              · refine aSk ?_; refine ⟨(y469, (y469 == 1125899906842624)), (Option.some.inj h).symm, ?_⟩; exact ca_XDTab
                            · intro _; refine pr_XDTab ?_; refine dr_XDTab ?_; refine aCd ?_; intro _; refine litT ?_; refine aEx ?_; have j46 := Option.some.inj h; subst j46; replace h := (osum_r hK37); refine ⟨x24.2.2, (Option.some.inj h).symm, ?_⟩; exact ca_XDTab
                          · intro _; obtain ⟨y470, w47, q48, h⟩ := ix_ok h; refine Exists.intro (cI y470) (And.intro (map_at' w47) ?_); intro _; refine pr_XDTab ?_; refine dr_XDTab ?_; refine aCd ?_; intro _; refine spl h (fun c49 h => ?_) (fun c49 h => ?_)
                            · refine aEx ?_; have j50 := Option.some.inj h; subst j50; replace h := (osum_r hK37); refine ⟨x24.2.2, (Option.some.inj h).symm, ?_⟩; exact ca_XDTab
                            · refine aSk ?_; refine ⟨(y470, (y470 == 1125899906842624)), (Option.some.inj h).symm, ?_⟩; exact ca_XDTab
                        · rintro ⟨v465, v466⟩ ho; have ho := ho.symm; subst ho; intro _; replace h := (osum_l hK37); obtain ⟨o51, h, hK52⟩ := ob1_ok h; refine awp_cut (α := List Fact) (fun v482 => mkS 134 [(1, .sl 1 (a1.map cI)), (2, .sl 1 (a2.map cI)), (3, .c (.int .i64 a3)), (8, .ptr 8 0 0 0), (15, .ptr 15 0 0 0), (18, .ptr 18 0 0 0), (70, .sl 1 (z261.map cL_cI)), (71, .c (.int .i64 ((z261.map cL_cI).length : Int))), (72, .c (.int .i64 x24.2.1)), (96, .sl 1 (a2.map cI)), (97, .c (.int .i64 x24.2.1)), (99, .c (.int .i64 v465)), (100, .c (.bool v466))] [(8, ⟨31, 2, true, [[.c (.int .i64 0), .c (.slice none 0 0)]]⟩), (15, ⟨31, 2, true, [[.c (.int .i64 a3), .own 125 0 0 x24.2.2.length]]⟩), (18, ⟨40, 2, true, [[.own 118 0 0 v482.length, .c (.int .i64 v460)]]⟩), (118, ⟨68, 2, false, v482.map cF⟩), (125, ⟨40, 2, false, x24.2.2.map cN⟩)]) (fun v => o51 = v) ?_ ?_
                          · refine aSR ?_; intro _; refine dr_XDTab ?_; refine aBk ?_; refine awp_loop (α := Nat × Int × (List Fact)) (fun x => mkS 134 [(1, .sl 1 (a1.map cI)), (2, .sl 1 (a2.map cI)), (3, .c (.int .i64 a3)), (8, .ptr 8 0 0 0), (15, .ptr 15 0 0 0), (17, .sl 1 (y458.map cI)), (18, .ptr 18 0 0 0), (70, .sl 1 (z261.map cL_cI)), (71, .c (.int .i64 ((z261.map cL_cI).length : Int))), (72, .c (.int .i64 x24.2.1)), (96, .sl 1 (a2.map cI)), (97, .c (.int .i64 x24.2.1)), (99, .c (.int .i64 v465)), (100, .c (.bool v466)), (102, .sl 1 (a1.map cI)), (103, .c (.int .i64 ((a1.map cI).length : Int))), (104, .c (.int .i64 x.2.1))] [(8, ⟨31, 2, true, [[.c (.int .i64 0), .c (.slice none 0 0)]]⟩), (15, ⟨31, 2, true, [[.c (.int .i64 a3), .own 125 0 0 x24.2.2.length]]⟩), (18, ⟨40, 2, true, [[.own 118 0 0 x.2.2.length, .c (.int .i64 v460)]]⟩), (118, ⟨68, 2, false, x.2.2.map cF⟩), (125, ⟨40, 2, false, x24.2.2.map cN⟩)]) (fun x => M_r32_FromTable_L2 a1 y458 x.1 x.2.1 x.2.2 = some o51) (fun x => x.1) ((((a1.map cI).length : Int)).toNat + 1, 0, []) h ?_ ?_
                            · exact ca_XDTab
                            · intro x53 h; intro _; obtain ⟨k492, m54, h⟩ := succ_of (f := fun n => M_r32_FromTable_L2 a1 y458 n x53.2.1 x53.2.2) rfl h; replace h : M_r32_FromTable_L2 a1 y458 (k492 + 1) x53.2.1 x53.2.2 = some o51 := h; rw [M_r32_FromTable_L2] at h; refine aSR ?_; intro _; refine dr_XDTab ?_; refine aSq ?_; refine aCd ?_; intro _; refine spl h (fun c55 h => ?_) (fun c55 h => ?_)
                              · refine aSk ?_; refine aSq ?_; refine aBk ?_; refine aSR ?_; intro _; obtain ⟨y493, w56, q57, h⟩ := ix_ok h; refine Exists.intro (cI y493) (And.intro (map_at' w56) ?_); intro _; refine pr_XDTab ?_; refine dr_XDTab ?_; refine aRg ?_; intro _; obtain ⟨y494, w58, q59, h⟩ := ix_ok h; refine Exists.intro (cI y494) (And.intro (map_at' w58) ?_); intro _; obtain ⟨q60, h⟩ := grd_ok h; refine pr_XDTab ?_; refine pl_XDTab ?_; refine pl_XDTab ?_; refine And.intro (by first | with_reducible assumption | (show (x53.2.2.length + 1) * 16 ≤ 140737488355328; with_reducible assumption) | omega | (simp; omega)) ?_; refine pe_XDTab ?_; refine dr_XDTab ?_; refine aRg ?_; intro _; refine dr_XDTab ?_; refine ⟨(k492, (IntKind.i64.wrap (x53.2.1 + 1)), (x53.2.2 ++ [(y493, y494)])), h, ltS m54, ?_⟩; exact ca_XDTab
                              · refine aEx ?_; refine ⟨x53.2.2, (Option.some.inj h).symm, ?_⟩; exact ca_XDTab
                          · rintro v482 ho; have ho := ho.symm; subst ho; intro _; replace h := hK52; refine aRg ?_; intro _; obtain ⟨q61, h⟩ := grd_ok h; refine pl_XDTab ?_; refine pl_XDTab ?_; refine And.intro (by first | with_reducible assumption | (show (x24.2.2.length + 1) * 32 ≤ 140737488355328; with_reducible assumption) | omega | (simp; omega)) ?_; refine pe_XDTab ?_; refine dr_XDTab ?_; obtain ⟨q62, h⟩ := grd_ok h; refine ⟨(x24.2.2 ++ [(v482, v460)]), (Option.some.inj h).symm, ?_⟩; exact ca_XDTab
                    · rintro v456 ho; have ho := ho.symm; subst ho; intro _; replace h := hK28; refine aRg ?_; intro _; refine dr_XDTab ?_; refine ⟨(k418, (IntKind.i64.wrap (x24.2.1 + 1)), v456), h, ltS m25, ?_⟩; exact ca_XDTab
                  · refine aEx ?_; refine ⟨x24.2.2, (Option.some.inj h).symm, ?_⟩; exact ca_XDTab
              · rintro v259 ho; have ho := ho.symm; subst ho; intro _; replace h := hK22; refine aSq ?_; refine aSR ?_; intro _; refine dr_XDTab ?_; refine aCd ?_; intro _; refine spl h (fun c63 h => ?_) (fun c63 h => ?_)
                · refine aSR ?_; intro _; refine dr_XDTab ?_; refine aRt ?_; intro _; obtain ⟨rfl, rfl⟩ := inj2 h; exact ca_XDTab
                · refine aSk ?_; refine aSR ?_; intro _; refine dr_XDTab ?_; refine aRt ?_; obtain ⟨q64, h⟩ := grd_ok h; intro _; obtain ⟨rfl, rfl⟩ := inj2 h; exact ca_XDTab
def M_l30_Same_L1 (a0 : GCertificate) (a1 : GCertificate) : Nat → Int → Option (Bool)
  | 0, _ => none
  | k15 + 1, v14 =>
    sel (decide (v14 < ((a0.Nogoods.map cN).length : Int)))
     (ix a0.Nogoods v14 (fun y16 =>
       ix a1.Nogoods v14 (fun y17 =>
        sel (y16.2 != y17.2)
         (some false)
         (ix a0.Nogoods v14 (fun y18 =>
           ix a1.Nogoods v14 (fun y19 =>
            ob1 (M_b_Facts y18.1 y19.1) (fun z20 =>
             sel (!z20)
              (some false)
              (M_l30_Same_L1 a0 a1 k15 (IntKind.i64.wrap (v14 + 1))))))))))
     (some true)
def M_l30_Same (a0 : GCertificate) (a1 : GCertificate) : Option (Bool) :=
  ob1 (sel (a0.Bound != a1.Bound)
    (some (.inr false))
    (sel (((a0.Nogoods.map cN).length : Int) != ((a1.Nogoods.map cN).length : Int))
      (some (.inr false))
      (some (.inl ()))) : Option (Unit ⊕ Bool))
   (osum
   (fun _ => M_l30_Same_L1 a0 a1 ((((a0.Nogoods.map cN).length : Int)).toNat + 1) 0)
   (fun r1 => some r1))
theorem A_l30_Same (a0 : GCertificate) (a1 : GCertificate) {r1 : Bool} (h : M_l30_Same a0 a1 = some r1) : ACall cx 24 [.agg [.c (.int .i64 a0.Bound), .sl 2 (a0.Nogoods.map cN)], .agg [.c (.int .i64 a1.Bound), .sl 2 (a1.Nogoods.map cN)]] (.c (.bool r1)) := by
  refine aOf Tryz.func24 rfl (by decide) rfl (Nat.le_of_ble_eq_true rfl) ?_; intro _; unfold M_l30_Same at h; refine aSR ?_; intro _; refine dr_XDTab ?_; obtain ⟨o1, h, hK2⟩ := ob1_ok h; refine awp_cut (α := Unit) (fun _ => mkS 56 [(2, .ptr 2 0 0 0), (3, .ptr 3 0 0 0)] [(2, ⟨31, 2, true, [[.c (.int .i64 a0.Bound), .sl 2 (a0.Nogoods.map cN)]]⟩), (3, ⟨31, 2, true, [[.c (.int .i64 a1.Bound), .sl 2 (a1.Nogoods.map cN)]]⟩)]) (fun v => o1 = (.inl v)) ?_ ?_
  · refine aSR ?_; intro _; refine spf h (fun c3 h => ?_) (fun c3 h => ?_)
    · intro _; refine dr_XDTab ?_; refine aCd ?_; intro _; refine spl h (fun c4 h => ?_) (fun c4 h => ?_)
      · refine aSR ?_; intro _; refine dr_XDTab ?_; refine aRt ?_; have j5 := Option.some.inj h; subst j5; replace h := (osum_r hK2); intro _; obtain rfl := inj1 h; exact ca_XDTab
      · refine aSk ?_; refine ⟨(), (Option.some.inj h).symm, ?_⟩; exact ca_XDTab
    · intro _; refine dr_XDTab ?_; refine aCd ?_; intro _; refine litT ?_; refine aSR ?_; intro _; refine dr_XDTab ?_; refine aRt ?_; have j6 := Option.some.inj h; subst j6; replace h := (osum_r hK2); intro _; obtain rfl := inj1 h; exact ca_XDTab
  · rintro _ ho; have ho := ho.symm; subst ho; intro _; replace h := (osum_l hK2); refine aSq ?_; refine aSR ?_; intro _; refine dr_XDTab ?_; refine aBk ?_; refine awp_loop (α := Nat × Int) (fun x => mkS 56 [(2, .ptr 2 0 0 0), (3, .ptr 3 0 0 0), (22, .c (.int .i64 ((a0.Nogoods.map cN).length : Int))), (23, .c (.int .i64 x.2))] [(2, ⟨31, 2, true, [[.c (.int .i64 a0.Bound), .sl 2 (a0.Nogoods.map cN)]]⟩), (3, ⟨31, 2, true, [[.c (.int .i64 a1.Bound), .sl 2 (a1.Nogoods.map cN)]]⟩)]) (fun x => M_l30_Same_L1 a0 a1 x.1 x.2 = some r1) (fun x => x.1) ((((a0.Nogoods.map cN).length : Int)).toNat + 1, 0) h ?_ ?_
    · exact ca_XDTab
    · intro x7 h; intro _; obtain ⟨k15, m8, h⟩ := succ_of (f := fun n => M_l30_Same_L1 a0 a1 n x7.2) rfl h; replace h : M_l30_Same_L1 a0 a1 (k15 + 1) x7.2 = some r1 := h; rw [M_l30_Same_L1] at h; refine aSR ?_; intro _; refine dr_XDTab ?_; refine aSq ?_; refine aCd ?_; intro _; refine spl h (fun c9 h => ?_) (fun c9 h => ?_)
      · refine aSk ?_; refine aSq ?_; refine aBk ?_; refine aSR ?_; intro _; refine dr_XDTab ?_; refine aSR ?_; intro _; obtain ⟨y16, w10, q11, h⟩ := ix_ok h; refine Exists.intro (cN y16) (And.intro (map_at' w10) ?_); intro _; obtain ⟨y17, w12, q13, h⟩ := ix_ok h; refine Exists.intro (cN y17) (And.intro (map_at' w12) ?_); intro _; refine spf h (fun c14 h => ?_) (fun c14 h => ?_)
        · intro _; obtain ⟨y18, w15, q16, h⟩ := ix_ok h; refine Exists.intro (cN y18) (And.intro (map_at' w15) ?_); intro _; obtain ⟨y19, w17, q18, h⟩ := ix_ok h; refine Exists.intro (cN y19) (And.intro (map_at' w17) ?_); intro _; obtain ⟨z20, u19, h⟩ := ob1_ok h; refine cl_XDTab rfl (A_b_Facts y18.1 y19.1 u19) ?_; intro _; refine pr_XDTab ?_; refine pr_XDTab ?_; refine pr_XDTab ?_; refine pr_XDTab ?_; refine dr_XDTab ?_; refine aCd ?_; intro _; refine spl h (fun c20 h => ?_) (fun c20 h => ?_)
          · refine aSR ?_; intro _; refine dr_XDTab ?_; refine aRt ?_; intro _; obtain rfl := inj1 h; exact ca_XDTab
          · refine aSk ?_; refine aRg ?_; intro _; refine dr_XDTab ?_; refine ⟨(k15, (IntKind.i64.wrap (x7.2 + 1))), h, ltS m8, ?_⟩; exact ca_XDTab
        · intro _; refine pr_XDTab ?_; refine pr_XDTab ?_; refine dr_XDTab ?_; refine aCd ?_; intro _; refine litT ?_; refine aSR ?_; intro _; refine dr_XDTab ?_; refine aRt ?_; intro _; obtain rfl := inj1 h; exact ca_XDTab
      · refine aEx ?_; refine aSR ?_; intro _; refine dr_XDTab ?_; refine aRt ?_; intro _; obtain rfl := inj1 h; exact ca_XDTab
def M_l32_CertifyTables (g : Nat) (a0 : GTask) (a1 : GTable) : Option (Bool) :=
  ob1 (sel (decide (((a0.Vars.map cI).length : Int) > 70))
    (ob1 (M_l32_awake g) (fun z14 =>
      some (.inr z14)))
    (sel (decide (((a0.Ops.map cGOp).length : Int) > 20))
      (ob1 (M_l32_awake g) (fun z13 =>
        some (.inr z13)))
      (sel (decide (((a1.Pattern.map cI).length : Int) > 100))
        (ob1 (M_l32_awake g) (fun z12 =>
          some (.inr z12)))
        (sel (decide (((a1.Values.map cI).length : Int) > 600))
          (ob1 (M_l32_awake g) (fun z11 =>
            some (.inr z11)))
          (ob1 (M_l32_awake g) (fun z9 =>
            sel (!z9)
             (ob1 (M_l32_awake g) (fun z10 =>
               some (.inr z10)))
             (some (.inl ()))))))) : Option (Unit ⊕ Bool))
   (osum
   (fun _ => ob2 (M_certify_FromTable g a0 a1.Pattern a1.Values a1.Bound) (fun z15 z16 =>
      ob2 (M_r32_FromTable a0 a1.Pattern a1.Values a1.Bound) (fun z17 z18 =>
       ob1 (M_b_Num z16) (fun z19 =>
        sel (z19 == z18)
         (ob1 (M_l30_Same z15 z17) (fun z20 =>
           some z20))
         (some false)))))
   (fun r7 => some r7))
theorem A_l32_CertifyTables (g : Nat) (a0 : GTask) (a1 : GTable) {r1 : Bool} (h : M_l32_CertifyTables g a0 a1 = some r1) : ACall cx 5 [.agg [.sl 1 (a0.Vars.map cI), .sl 1 (a0.Init.map cI), .sl 2 (a0.Goal.map cF), .sl 4 (a0.Ops.map cGOp)], .agg [.sl 1 (a1.Pattern.map cI), .sl 1 (a1.Values.map cI), .c (.int .i64 a1.Bound)]] (.c (.bool r1)) := by
  refine aOf Tryz.func5 rfl (by decide) rfl (Nat.le_of_ble_eq_true rfl) ?_; intro _; unfold M_l32_CertifyTables at h; refine aSR ?_; intro _; refine dr_XDTab ?_; obtain ⟨o1, h, hK2⟩ := ob1_ok h; refine awp_cut (α := Unit) (fun _ => mkS 67 [(2, .ptr 2 0 0 0), (3, .ptr 3 0 0 0)] [(2, ⟨26, 4, true, [[.sl 1 (a0.Vars.map cI), .sl 1 (a0.Init.map cI), .sl 2 (a0.Goal.map cF), .sl 4 (a0.Ops.map cGOp)]]⟩), (3, ⟨50, 3, true, [[.sl 1 (a1.Pattern.map cI), .sl 1 (a1.Values.map cI), .c (.int .i64 a1.Bound)]]⟩)]) (fun v => o1 = (.inl v)) ?_ ?_
  · refine aSR ?_; intro _; refine spf h (fun c3 h => ?_) (fun c3 h => ?_)
    · intro _; refine spf h (fun c4 h => ?_) (fun c4 h => ?_)
      · intro _; refine spf h (fun c5 h => ?_) (fun c5 h => ?_)
        · intro _; refine spf h (fun c6 h => ?_) (fun c6 h => ?_)
          · intro _; obtain ⟨z9, u7, h⟩ := ob1_ok h; refine cl_XDTab rfl (A_l32_awake g u7) ?_; intro _; refine dr_XDTab ?_; refine aCd ?_; intro _; refine spl h (fun c8 h => ?_) (fun c8 h => ?_)
            · refine aSR ?_; intro _; obtain ⟨z10, u9, h⟩ := ob1_ok h; refine cl_XDTab rfl (A_l32_awake g u9) ?_; intro _; refine dr_XDTab ?_; refine aRt ?_; have j10 := Option.some.inj h; subst j10; replace h := (osum_r hK2); intro _; obtain rfl := inj1 h; exact ca_XDTab
            · refine aSk ?_; refine ⟨(), (Option.some.inj h).symm, ?_⟩; exact ca_XDTab
          · intro _; refine dr_XDTab ?_; refine aCd ?_; intro _; refine litT ?_; refine aSR ?_; intro _; obtain ⟨z11, u11, h⟩ := ob1_ok h; refine cl_XDTab rfl (A_l32_awake g u11) ?_; intro _; refine dr_XDTab ?_; refine aRt ?_; have j12 := Option.some.inj h; subst j12; replace h := (osum_r hK2); intro _; obtain rfl := inj1 h; exact ca_XDTab
        · intro _; refine dr_XDTab ?_; refine aCd ?_; intro _; refine litT ?_; refine aSR ?_; intro _; obtain ⟨z12, u13, h⟩ := ob1_ok h; refine cl_XDTab rfl (A_l32_awake g u13) ?_; intro _; refine dr_XDTab ?_; refine aRt ?_; have j14 := Option.some.inj h; subst j14; replace h := (osum_r hK2); intro _; obtain rfl := inj1 h; exact ca_XDTab
      · intro _; refine dr_XDTab ?_; refine aCd ?_; intro _; refine litT ?_; refine aSR ?_; intro _; obtain ⟨z13, u15, h⟩ := ob1_ok h; refine cl_XDTab rfl (A_l32_awake g u15) ?_; intro _; refine dr_XDTab ?_; refine aRt ?_; have j16 := Option.some.inj h; subst j16; replace h := (osum_r hK2); intro _; obtain rfl := inj1 h; exact ca_XDTab
    · intro _; refine dr_XDTab ?_; refine aCd ?_; intro _; refine litT ?_; refine aSR ?_; intro _; obtain ⟨z14, u17, h⟩ := ob1_ok h; refine cl_XDTab rfl (A_l32_awake g u17) ?_; intro _; refine dr_XDTab ?_; refine aRt ?_; have j18 := Option.some.inj h; subst j18; replace h := (osum_r hK2); intro _; obtain rfl := inj1 h; exact ca_XDTab
  · rintro _ ho; have ho := ho.symm; subst ho; intro _; replace h := (osum_l hK2); refine aSR ?_; intro _; obtain ⟨z15, z16, u19, h⟩ := ob2_ok h; refine cl_XDTab rfl (A_certify_FromTable g a0 a1.Pattern a1.Values a1.Bound u19) ?_; intro _; refine dr_XDTab ?_; refine aSR ?_; intro _; obtain ⟨z17, z18, u20, h⟩ := ob2_ok h; refine cl_XDTab rfl (A_r32_FromTable a0 a1.Pattern a1.Values a1.Bound u20) ?_; intro _; refine dr_XDTab ?_; refine aSR ?_; intro _; obtain ⟨z19, u21, h⟩ := ob1_ok h; refine cl_XDTab rfl (A_b_Num z16 u21) ?_; intro _; refine spl h (fun c22 h => ?_) (fun c22 h => ?_)
    · intro _; obtain ⟨z20, u23, h⟩ := ob1_ok h; refine cl_XDTab rfl (A_l30_Same z15 z17 u23) ?_; intro _; refine dr_XDTab ?_; refine aRt ?_; intro _; obtain rfl := inj1 h; exact ca_XDTab
    · intro _; refine dr_XDTab ?_; refine aRt ?_; intro _; obtain rfl := inj1 h; exact ca_XDTab
end Go.Proofs.YtohjegemooakpaaGreat.Am
/- Range loops of the models as recursions. -/
namespace Go.Proofs.YtohjegemooakpaaGreat.Am
def M_b_Facts_L1_B (_ : List Fact) (a1 : List Fact) (_y8 : Fact) (v6 : Int) : Unit → (Unit → Option (Bool)) → Option (Bool) := fun _ rc => ixv _y8 (fun y8 =>
       ix a1 v6 (fun y9 =>
        sel (!(y8.1 == y9.1 && y8.2 == y9.2))
         (some false)
         (rc ())))
def M_b_Facts_L1_E (_ : List Fact) (_ : List Fact) : Unit → Option (Bool) := fun _ => some true
theorem M_b_Facts_L1_eq (a0 : List Fact) (a1 : List Fact)  (hl : a0.length < 9223372036854775807) : M_b_Facts_L1 a0 a1 (((a0.map cF).length : Int).toNat + 1) 0 = Rg (M_b_Facts_L1_B a0 a1) (M_b_Facts_L1_E a0 a1) a0 0 () := rg_e1 (L := fun k i _ => M_b_Facts_L1 a0 a1 k i) hl (fun _ _ _ => rfl) ()
end Go.Proofs.YtohjegemooakpaaGreat.Am
/- Range loops of the models as recursions. -/
namespace Go.Proofs.YtohjegemooakpaaGreat.Am
def M_s_IndexFunc_int_L1_B (_ : List Int) (a1 : Int → Option Bool) (_y8 : Int) (v6 : Int) : Unit → (Unit → Option (Int)) → Option (Int) := fun _ rc => ixv _y8 (fun y8 =>
       ob1 (a1 y8) (fun z9 =>
        sel z9
         (some v6)
         (rc ())))
def M_s_IndexFunc_int_L1_E (_ : List Int) (_ : Int → Option Bool) : Unit → Option (Int) := fun _ => some (-1)
theorem M_s_IndexFunc_int_L1_eq (a0 : List Int) (a1 : Int → Option Bool)  (hl : a0.length < 9223372036854775807) : M_s_IndexFunc_int_L1 a0 a1 (((a0.map cI).length : Int).toNat + 1) 0 = Rg (M_s_IndexFunc_int_L1_B a0 a1) (M_s_IndexFunc_int_L1_E a0 a1) a0 0 () := rg_e1 (L := fun k i _ => M_s_IndexFunc_int_L1 a0 a1 k i) hl (fun _ _ _ => rfl) ()
def M_certify_FromTable_L1_B (a0 : GTask) (a1 : List Int) (_y33 : Int) (v31 : Int) : ((Int)) → (((Int)) → Option (Int ⊕ (GCertificate × Er))) → Option (Int ⊕ (GCertificate × Er)) := fun v30 rc => ixv _y33 (fun y33 =>
       sel (decide (y33 < 0))
        (some (.inr ({ Bound := 0, Nogoods := [] : GCertificate }, (Er.no 2))))
        (sel (decide (y33 ≥ ((a0.Vars.map cI).length : Int)))
          (some (.inr ({ Bound := 0, Nogoods := [] : GCertificate }, (Er.no 2))))
          (sel (decide (v31 > 0))
            (ix a1 (IntKind.i64.wrap (v31 - 1)) (fun y34 =>
              sel (decide (y34 ≥ y33))
               (some (.inr ({ Bound := 0, Nogoods := [] : GCertificate }, (Er.no 2))))
               (ix a0.Vars y33 (fun y35 =>
                 rc ((min (IntKind.i64.wrap (v30 * y35)) 1125899906842624))))))
            (ix a0.Vars y33 (fun y36 =>
              rc ((min (IntKind.i64.wrap (v30 * y36)) 1125899906842624)))))))
def M_certify_FromTable_L1_E (_ : GTask) (_ : List Int) : ((Int)) → Option (Int ⊕ (GCertificate × Er)) := fun v30 => some (.inl v30)
theorem M_certify_FromTable_L1_eq (a0 : GTask) (a1 : List Int) (v30 : Int) (hl : a1.length < 9223372036854775807) : M_certify_FromTable_L1 a0 a1 (((a1.map cI).length : Int).toNat + 1) v30 0 = Rg (M_certify_FromTable_L1_B a0 a1) (M_certify_FromTable_L1_E a0 a1) a1 0 v30 := rg_e1 (L := fun k i v30 => M_certify_FromTable_L1 a0 a1 k v30 i) hl (fun _ _ _ => rfl) v30
def M_certify_FromTable_L2_B (a0 : GTask) (a1 : List Int) (_ : List Int) (a3 : Int) (g : Nat) (_y57 : Int) (v54 : Int) : ((List Nogood)) → (((List Nogood)) → Option (GCertificate × Er)) → Option (GCertificate × Er) := fun v55 rc => ixv _y57 (fun y57 =>
       ob1 (sel (decide (a3 ≥ 0))
         (sel (decide (y57 ≥ a3))
           (some (.inr ()))
           (sel (y57 == 1125899906842624)
             (some (.inr ()))
             (some (.inl ()))))
         (sel (y57 == 1125899906842624)
           (some (.inr ()))
           (some (.inl ()))) : Option (Unit ⊕ Unit))
        (osum
        (fun _ => sel (((v55.length : Nat) : Int) == 4096)
           (some ({ Bound := 0, Nogoods := [] : GCertificate }, (Er.no 5)))
           (sel (decide (a3 < 0))
             (ob1 (M_certify_combination g a0 a1 v54) (fun z59 =>
               grd ((v55.length + 1) * 32 ≤ 140737488355328) (rc ((v55 ++ [(z59, 0)])))))
             (ob1 (M_certify_combination g a0 a1 v54) (fun z60 =>
               grd ((v55.length + 1) * 32 ≤ 140737488355328) (rc ((v55 ++ [(z60, y57)])))))))
        (fun _ => rc (v55))))
def M_certify_FromTable_L2_E (_ : GTask) (_ : List Int) (_ : List Int) (a3 : Int) (_ : Nat) : ((List Nogood)) → Option (GCertificate × Er) := fun v55 => grd (v55.length ≤ 140737488355328) (some ({ Bound := a3, Nogoods := v55 : GCertificate }, Er.nil))
theorem M_certify_FromTable_L2_eq (a0 : GTask) (a1 : List Int) (a2 : List Int) (a3 : Int) (g : Nat) (v55 : List Nogood) (hl : a2.length < 9223372036854775807) : M_certify_FromTable_L2 a0 a1 a2 a3 g (((a2.map cI).length : Int).toNat + 1) 0 v55 = Rg (M_certify_FromTable_L2_B a0 a1 a2 a3 g) (M_certify_FromTable_L2_E a0 a1 a2 a3 g) a2 0 v55 := rg_e1 (L := fun k i v55 => M_certify_FromTable_L2 a0 a1 a2 a3 g k i v55) hl (fun _ _ _ => rfl) v55
def M_r05_large_L1_B (_ : GOp) (_y79 : GEffect) (_ : Int) : ((Bool)) → (((Bool)) → Option (Bool)) → Option (Bool) := fun v76 rc => ixv _y79 (fun y79 =>
       sel v76
        (rc (true))
        (rc ((decide (((y79.When.map cF).length : Int) > 64)))))
def M_r05_large_L1_E (_ : GOp) : ((Bool)) → Option (Bool) := fun v76 => some v76
theorem M_r05_large_L1_eq (y69 : GOp) (v76 : Bool) (hl : y69.Effs.length < 9223372036854775807) : M_r05_large_L1 y69 (((y69.Effs.map cGEffect).length : Int).toNat + 1) v76 0 = Rg (M_r05_large_L1_B y69) (M_r05_large_L1_E y69) y69.Effs 0 v76 := rg_e1 (L := fun k i v76 => M_r05_large_L1 y69 k v76 i) hl (fun _ _ _ => rfl) v76
def M_r05_large_L2_B (_ : GTask) (_y69 : GOp) (_ : Int) : ((Bool)) → (((Bool)) → Option (Bool)) → Option (Bool) := fun v53 rc => ob1 (ixv _y69 (fun y69 =>
        ob1 (sel v53
          (some true)
          (sel (decide (((y69.Pre.map cF).length : Int) > 64))
            (some true)
            (some (decide (((y69.Effs.map cGEffect).length : Int) > 64)))) : Option (Bool))
         (fun v70 => M_r05_large_L1 y69 ((((y69.Effs.map cGEffect).length : Int)).toNat + 1) v70 0)) : Option (Bool))
       (fun v67 => rc (v67))
def M_r05_large_L2_E (_ : GTask) : ((Bool)) → Option (Bool) := fun v53 => some v53
theorem M_r05_large_L2_eq (a0 : GTask) (v53 : Bool) (hl : a0.Ops.length < 9223372036854775807) : M_r05_large_L2 a0 (((a0.Ops.map cGOp).length : Int).toNat + 1) v53 0 = Rg (M_r05_large_L2_B a0) (M_r05_large_L2_E a0) a0.Ops 0 v53 := rg_e2 (L := fun k i v53 => M_r05_large_L2 a0 k v53 i) hl (fun k n p y hy h1 h2 => by first | (simp only [M_r05_large_L2, M_r05_large_L2_B, List.length_map, decide_lt h1, sel, ix_at hy, ixv, h2]; done) | (simp only [List.length_map] at h1 hy; (simp only [M_r05_large_L2, M_r05_large_L2_B, List.length_map, decide_lt h1, sel, ix_at hy, ixv, h2]; done))) (fun k p => by simp only [M_r05_large_L2, M_r05_large_L2_E, List.length_map, decide_ge, sel]) v53
def M_r05_outside_L1_B (_ : GTask) (_y18 : Int) (_ : Int) : ((Bool)) → (((Bool)) → Option (Bool)) → Option (Bool) := fun v15 rc => ixv _y18 (fun y18 =>
       sel v15
        (rc (true))
        (sel (decide (y18 < 1))
          (rc (true))
          (rc ((decide (y18 > 64))))))
def M_r05_outside_L1_E (_ : GTask) : ((Bool)) → Option (Bool) := fun v15 => some v15
theorem M_r05_outside_L1_eq (a0 : GTask) (v15 : Bool) (hl : a0.Vars.length < 9223372036854775807) : M_r05_outside_L1 a0 (((a0.Vars.map cI).length : Int).toNat + 1) v15 0 = Rg (M_r05_outside_L1_B a0) (M_r05_outside_L1_E a0) a0.Vars 0 v15 := rg_e1 (L := fun k i v15 => M_r05_outside_L1 a0 k v15 i) hl (fun _ _ _ => rfl) v15
def M_r05_outside_L2_B (_ : GTask) (_y26 : GOp) (_ : Int) : ((Bool)) → (((Bool)) → Option (Bool)) → Option (Bool) := fun v23 rc => ixv _y26 (fun y26 =>
       sel v23
        (rc (true))
        (sel (decide (y26.Cost < 0))
          (rc (true))
          (rc ((decide (y26.Cost > 1048576))))))
def M_r05_outside_L2_E (_ : GTask) : ((Bool)) → Option (Bool) := fun v23 => some v23
theorem M_r05_outside_L2_eq (a0 : GTask) (v23 : Bool) (hl : a0.Ops.length < 9223372036854775807) : M_r05_outside_L2 a0 (((a0.Ops.map cGOp).length : Int).toNat + 1) v23 0 = Rg (M_r05_outside_L2_B a0) (M_r05_outside_L2_E a0) a0.Ops 0 v23 := rg_e1 (L := fun k i v23 => M_r05_outside_L2 a0 k v23 i) hl (fun _ _ _ => rfl) v23
def M_r05_malformed_L1_B (a0 : GTask) (_ : GOp) (_y129 : GEffect) (_ : Int) : ((Bool)) → (((Bool)) → Option (Bool)) → Option (Bool) := fun v126 rc => ixv _y129 (fun y129 =>
       sel v126
        (rc (true))
        (ob1 (M_b_Proper a0.Vars y129.When) (fun z130 =>
          sel (!z130)
           (rc (true))
           (ob1 (M_b_Proper a0.Vars [(y129.Var, y129.Val)]) (fun z131 =>
             rc ((!z131)))))))
def M_r05_malformed_L1_E (_ : GTask) (_ : GOp) : ((Bool)) → Option (Bool) := fun v126 => some v126
theorem M_r05_malformed_L1_eq (a0 : GTask) (y113 : GOp) (v126 : Bool) (hl : y113.Effs.length < 9223372036854775807) : M_r05_malformed_L1 a0 y113 (((y113.Effs.map cGEffect).length : Int).toNat + 1) v126 0 = Rg (M_r05_malformed_L1_B a0 y113) (M_r05_malformed_L1_E a0 y113) y113.Effs 0 v126 := rg_e1 (L := fun k i v126 => M_r05_malformed_L1 a0 y113 k v126 i) hl (fun _ _ _ => rfl) v126
def M_r05_malformed_L2_B (a0 : GTask) (_y113 : GOp) (_ : Int) : ((Bool)) → (((Bool)) → Option (Bool)) → Option (Bool) := fun v89 rc => ob1 (ixv _y113 (fun y113 =>
        ob1 (sel v89
          (some true)
          (ob1 (M_b_Proper a0.Vars y113.Pre) (fun z117 =>
            some (!z117))) : Option (Bool))
         (fun v115 => M_r05_malformed_L1 a0 y113 ((((y113.Effs.map cGEffect).length : Int)).toNat + 1) v115 0)) : Option (Bool))
       (fun v111 => rc (v111))
def M_r05_malformed_L2_E (_ : GTask) : ((Bool)) → Option (Bool) := fun v89 => some v89
theorem M_r05_malformed_L2_eq (a0 : GTask) (v89 : Bool) (hl : a0.Ops.length < 9223372036854775807) : M_r05_malformed_L2 a0 (((a0.Ops.map cGOp).length : Int).toNat + 1) v89 0 = Rg (M_r05_malformed_L2_B a0) (M_r05_malformed_L2_E a0) a0.Ops 0 v89 := rg_e2 (L := fun k i v89 => M_r05_malformed_L2 a0 k v89 i) hl (fun k n p y hy h1 h2 => by first | (simp only [M_r05_malformed_L2, M_r05_malformed_L2_B, List.length_map, decide_lt h1, sel, ix_at hy, ixv, h2]; done) | (simp only [List.length_map] at h1 hy; (simp only [M_r05_malformed_L2, M_r05_malformed_L2_B, List.length_map, decide_lt h1, sel, ix_at hy, ixv, h2]; done))) (fun k p => by simp only [M_r05_malformed_L2, M_r05_malformed_L2_E, List.length_map, decide_ge, sel]) v89
def M_r05_misnamed_L1_B (y57 : GOp) (v63 : Int) : ((Bool)) → (((Bool)) → Option (Bool)) → Option (Bool) := fun v62 rc => sel v62
       (rc (true))
       (sel (decide ((byt y57.Name v63) < 32))
         (grd (0 ≤ v63) (grd (v63 < (y57.Name.size : Int)) (rc (true))))
         (grd (0 ≤ v63) (grd (v63 < (y57.Name.size : Int)) (rc ((decide ((byt y57.Name v63) > 126)))))))
def M_r05_misnamed_L1_E (_ : GOp) : ((Bool)) → Option (Bool) := fun v62 => some v62
theorem M_r05_misnamed_L1_eq (y57 : GOp) (v62 : Bool) {m : Nat} (hm : (y57.Name.size : Int) = (m : Int)) (hl : m < 9223372036854775807) : M_r05_misnamed_L1 y57 (((y57.Name.size : Int)).toNat + 1) v62 0 = Rn (M_r05_misnamed_L1_B y57) (M_r05_misnamed_L1_E y57) m 0 v62 := rn_e (L := fun k i v62 => M_r05_misnamed_L1 y57 k v62 i) hm hl (fun _ _ _ => rfl) v62
def M_r05_misnamed_L2_B (_ : GTask) (_y57 : GOp) (_ : Int) : ((Bool)) → (((Bool)) → Option (Bool)) → Option (Bool) := fun v44 rc => ob1 (ixv _y57 (fun y57 =>
        ob1 (sel v44
          (some true)
          (some (decide ((y57.Name.size : Int) > 256))) : Option (Bool))
         (fun v58 => M_r05_misnamed_L1 y57 (((y57.Name.size : Int)).toNat + 1) v58 0)) : Option (Bool))
       (fun v55 => rc (v55))
def M_r05_misnamed_L2_E (_ : GTask) : ((Bool)) → Option (Bool) := fun v44 => some v44
theorem M_r05_misnamed_L2_eq (a0 : GTask) (v44 : Bool) (hl : a0.Ops.length < 9223372036854775807) : M_r05_misnamed_L2 a0 (((a0.Ops.map cGOp).length : Int).toNat + 1) v44 0 = Rg (M_r05_misnamed_L2_B a0) (M_r05_misnamed_L2_E a0) a0.Ops 0 v44 := rg_e2 (L := fun k i v44 => M_r05_misnamed_L2 a0 k v44 i) hl (fun k n p y hy h1 h2 => by first | (simp only [M_r05_misnamed_L2, M_r05_misnamed_L2_B, List.length_map, decide_lt h1, sel, ix_at hy, ixv, h2]; done) | (simp only [List.length_map] at h1 hy; (simp only [M_r05_misnamed_L2, M_r05_misnamed_L2_B, List.length_map, decide_lt h1, sel, ix_at hy, ixv, h2]; done))) (fun k p => by simp only [M_r05_misnamed_L2, M_r05_misnamed_L2_E, List.length_map, decide_ge, sel]) v44
def M_r32_right_L1_B (a0 : GTask) (a1 : List Int) (_y7 : Int) (v5 : Int) : Unit → (Unit → Option (Bool)) → Option (Bool) := fun _ rc => ixv _y7 (fun y7 =>
       sel (decide (y7 < 0))
        (some false)
        (sel (decide (y7 ≥ ((a0.Vars.map cI).length : Int)))
          (some false)
          (sel (decide (v5 > 0))
            (ix a1 (IntKind.i64.wrap (v5 - 1)) (fun y8 =>
              sel (decide (y8 ≥ y7))
               (some false)
               (rc ())))
            (rc ()))))
def M_r32_right_L1_E (_ : GTask) (_ : List Int) : Unit → Option (Bool) := fun _ => some true
theorem M_r32_right_L1_eq (a0 : GTask) (a1 : List Int)  (hl : a1.length < 9223372036854775807) : M_r32_right_L1 a0 a1 (((a1.map cI).length : Int).toNat + 1) 0 = Rg (M_r32_right_L1_B a0 a1) (M_r32_right_L1_E a0 a1) a1 0 () := rg_e1 (L := fun k i _ => M_r32_right_L1 a0 a1 k i) hl (fun _ _ _ => rfl) ()
def M_r32_Sizes_L1_B (a0 : GTask) (_ : List Int) (_y10 : Int) (_ : Int) : ((List Int)) → (((List Int)) → Option (List Int)) → Option (List Int) := fun v8 rc => ixv _y10 (fun y10 =>
       ix a0.Vars y10 (fun y11 =>
        grd ((v8.length + 1) * 8 ≤ 140737488355328) (rc ((v8 ++ [y11])))))
def M_r32_Sizes_L1_E (_ : GTask) (_ : List Int) : ((List Int)) → Option (List Int) := fun v8 => grd (v8.length ≤ 140737488355328) (some v8)
theorem M_r32_Sizes_L1_eq (a0 : GTask) (a1 : List Int) (v8 : List Int) (hl : a1.length < 9223372036854775807) : M_r32_Sizes_L1 a0 a1 (((a1.map cI).length : Int).toNat + 1) 0 v8 = Rg (M_r32_Sizes_L1_B a0 a1) (M_r32_Sizes_L1_E a0 a1) a1 0 v8 := rg_e1 (L := fun k i v8 => M_r32_Sizes_L1 a0 a1 k i v8) hl (fun _ _ _ => rfl) v8
def M_r32_FromTable_L1_B (_ : List Int) (_y24 : Int) (_ : Int) : ((Bool)) → (((Bool)) → Option (Bool)) → Option (Bool) := fun v21 rc => ixv _y24 (fun y24 =>
       sel v21
        (rc (true))
        (sel (decide (y24 < 0))
          (rc (true))
          (rc ((decide (y24 > 1125899906842624))))))
def M_r32_FromTable_L1_E (_ : List Int) : ((Bool)) → Option (Bool) := fun v21 => some v21
theorem M_r32_FromTable_L1_eq (a2 : List Int) (v21 : Bool) (hl : a2.length < 9223372036854775807) : M_r32_FromTable_L1 a2 (((a2.map cI).length : Int).toNat + 1) v21 0 = Rg (M_r32_FromTable_L1_B a2) (M_r32_FromTable_L1_E a2) a2 0 v21 := rg_e1 (L := fun k i v21 => M_r32_FromTable_L1 a2 k v21 i) hl (fun _ _ _ => rfl) v21
def M_r32_FromTable_L2_B (_ : List Int) (y458 : List Int) (_y493 : Int) (v490 : Int) : ((List Fact)) → (((List Fact)) → Option (List Fact)) → Option (List Fact) := fun v491 rc => ixv _y493 (fun y493 =>
       ix y458 v490 (fun y494 =>
        grd ((v491.length + 1) * 16 ≤ 140737488355328) (rc ((v491 ++ [(y493, y494)])))))
def M_r32_FromTable_L2_E (_ : List Int) (_ : List Int) : ((List Fact)) → Option (List Fact) := fun v491 => some v491
theorem M_r32_FromTable_L2_eq (a1 : List Int) (y458 : List Int) (v491 : List Fact) (hl : a1.length < 9223372036854775807) : M_r32_FromTable_L2 a1 y458 (((a1.map cI).length : Int).toNat + 1) 0 v491 = Rg (M_r32_FromTable_L2_B a1 y458) (M_r32_FromTable_L2_E a1 y458) a1 0 v491 := rg_e1 (L := fun k i v491 => M_r32_FromTable_L2 a1 y458 k i v491) hl (fun _ _ _ => rfl) v491
def M_r32_FromTable_L3_B (a1 : List Int) (a2 : List Int) (a3 : Int) (_ : List (List Int)) (_y458 : List Int) (v416 : Int) : ((List Nogood)) → (((List Nogood)) → Option (List Nogood)) → Option (List Nogood) := fun v417 rc => ob1 (ixv _y458 (fun y458 =>
        ix a2 v416 (fun y459 =>
         ob1 (sel (decide (a3 < 0))
           (some 0)
           (some y459) : Option (Int))
          (fun v460 => ob1 (sel (decide (a3 ≥ 0))
              (ix a2 v416 (fun y468 =>
                sel (decide (y468 ≥ a3))
                 (some (.inr ()))
                 (ix a2 v416 (fun y469 =>
                   sel (y469 == 1125899906842624)
                    (some (.inr ()))
                    (some (.inl (y469, (y469 == 1125899906842624))))))))
              (ix a2 v416 (fun y470 =>
                sel (y470 == 1125899906842624)
                 (some (.inr ()))
                 (some (.inl (y470, (y470 == 1125899906842624)))))) : Option ((Int × Bool) ⊕ Unit))
             (osum
             (fun (_, _) => ob1 (M_r32_FromTable_L2 a1 y458 ((((a1.map cI).length : Int)).toNat + 1) 0 [] : Option (List Fact))
                (fun v482 => grd ((v417.length + 1) * 32 ≤ 140737488355328) (grd (v482.length ≤ 140737488355328) (some (v417 ++ [(v482, v460)])))))
             (fun _ => some v417))))) : Option (List Nogood))
       (fun v456 => rc (v456))
def M_r32_FromTable_L3_E (_ : List Int) (_ : List Int) (_ : Int) (_ : List (List Int)) : ((List Nogood)) → Option (List Nogood) := fun v417 => some v417
theorem M_r32_FromTable_L3_eq (a1 : List Int) (a2 : List Int) (a3 : Int) (z261 : List (List Int)) (v417 : List Nogood) (hl : z261.length < 9223372036854775807) : M_r32_FromTable_L3 a1 a2 a3 z261 (((z261.map cL_cI).length : Int).toNat + 1) 0 v417 = Rg (M_r32_FromTable_L3_B a1 a2 a3 z261) (M_r32_FromTable_L3_E a1 a2 a3 z261) z261 0 v417 := rg_e2 (L := fun k i v417 => M_r32_FromTable_L3 a1 a2 a3 z261 k i v417) hl (fun k n p y hy h1 h2 => by first | (simp only [M_r32_FromTable_L3, M_r32_FromTable_L3_B, List.length_map, decide_lt h1, sel, ix_at hy, ixv, h2]; done) | (simp only [List.length_map] at h1 hy; (simp only [M_r32_FromTable_L3, M_r32_FromTable_L3_B, List.length_map, decide_lt h1, sel, ix_at hy, ixv, h2]; done))) (fun k p => by simp only [M_r32_FromTable_L3, M_r32_FromTable_L3_E, List.length_map, decide_ge, sel]) v417
def M_l30_Same_L1_B (a0 : GCertificate) (a1 : GCertificate) (_y16 : Nogood) (v14 : Int) : Unit → (Unit → Option (Bool)) → Option (Bool) := fun _ rc => ixv _y16 (fun y16 =>
       ix a1.Nogoods v14 (fun y17 =>
        sel (y16.2 != y17.2)
         (some false)
         (ix a0.Nogoods v14 (fun y18 =>
           ix a1.Nogoods v14 (fun y19 =>
            ob1 (M_b_Facts y18.1 y19.1) (fun z20 =>
             sel (!z20)
              (some false)
              (rc ())))))))
def M_l30_Same_L1_E (_ : GCertificate) (_ : GCertificate) : Unit → Option (Bool) := fun _ => some true
theorem M_l30_Same_L1_eq (a0 : GCertificate) (a1 : GCertificate)  (hl : a0.Nogoods.length < 9223372036854775807) : M_l30_Same_L1 a0 a1 (((a0.Nogoods.map cN).length : Int).toNat + 1) 0 = Rg (M_l30_Same_L1_B a0 a1) (M_l30_Same_L1_E a0 a1) a0.Nogoods 0 () := rg_e1 (L := fun k i _ => M_l30_Same_L1 a0 a1 k i) hl (fun _ _ _ => rfl) ()
end Go.Proofs.YtohjegemooakpaaGreat.Am
/- Plain laws: the reference of Check. -/
namespace Go.Proofs.YtohjegemooakpaaGreat.Am
open Go.RowKit
def erN : Er → Int
  | .nil => 0
  | .no e => e
theorem num_eq (e : Er) : M_b_Num e = some (erN e) := by cases e <;> rfl
theorem rg_any {α γ : Type} {B : α → Int → Bool → (Bool → Option γ) → Option γ} {E : Bool → Option γ} {q : α → Bool} : ∀ {l : List α} {i : Int} {v : Bool}, (∀ y ∈ l, ∀ i v rc, B y i v rc = rc (v || q y)) → Rg B E l i v = E (v || l.any q)
  | [], i, v, _ => by rw [Rg, List.any_nil, Bool.or_false]
  | y :: r, i, v, h => by
    rw [Rg, h y (List.mem_cons_self ..), rg_any (fun z hz => h z (List.mem_cons_of_mem _ hz)), List.any_cons, Bool.or_assoc]
theorem rn_any {γ : Type} {B : Int → Bool → (Bool → Option γ) → Option γ} {E : Bool → Option γ} {q : Nat → Bool} : ∀ {m n : Nat} {v : Bool}, (∀ k, n ≤ k → k < n + m → ∀ v rc, B k v rc = rc (v || q k)) → Rn B E m n v = E (v || (List.range' n m).any q)
  | 0, n, v, _ => by rw [Rn]; simp
  | m + 1, n, v, h => by
    rw [Rn, h n (Nat.le_refl _) (by omega), show ((n : Int) + 1) = ((n + 1 : Nat) : Int) from rfl, rn_any (fun k h1 h2 => h k (by omega) (by omega)), List.range'_succ, List.any_cons, Bool.or_assoc]
theorem sel_or {γ : Type} {b : Bool} {rc : Bool → Option γ} {x : Bool} : sel b (rc true) (rc x) = rc (b || x) := by cases b <;> rfl
theorem ref_large (t : GTask) (ht : ShT t) : M_r05_large t = some (largeF t) := by
  have e2 := M_r05_large_L2_eq t (decide (t.Vars.length > 64) || (decide (t.Ops.length > 4096) || decide (t.Goal.length > 64))) ht.ops.lt
  have hv : ∀ K : Bool → Option Bool, ob1 (sel (decide (((t.Vars.map cI).length : Int) > 64)) (some true) (sel (decide (((t.Ops.map cGOp).length : Int) > 4096)) (some true) (some (decide (((t.Goal.map cF).length : Int) > 64)))) : Option (Bool)) K = K (decide (t.Vars.length > 64) || (decide (t.Ops.length > 4096) || decide (t.Goal.length > 64))) := by
    intro K
    simp only [List.length_map]
    have a1 : decide ((t.Vars.length : Int) > 64) = decide (t.Vars.length > 64) := by congr 1; apply propext; omega
    have a2 : decide ((t.Ops.length : Int) > 4096) = decide (t.Ops.length > 4096) := by congr 1; apply propext; omega
    have a3 : decide ((t.Goal.length : Int) > 64) = decide (t.Goal.length > 64) := by congr 1; apply propext; omega
    rw [a1, a2, a3]
    cases decide (t.Vars.length > 64) <;> cases decide (t.Ops.length > 4096) <;> rfl
  rw [M_r05_large, hv, e2, rg_any (q := fun o : GOp => decide (o.Pre.length > 64) || (decide (o.Effs.length > 64) || o.Effs.any fun e => decide (e.When.length > 64))), M_r05_large_L2_E]
  · congr 1
    rw [Bool.eq_iff_iff, largeF, condsF]
    simp only [Bool.or_eq_true, decide_eq_true_iff, List.any_eq_true, List.mem_cons, List.mem_flatMap, condsO, List.mem_map]
    constructor
    · rintro ((h | h | h) | ⟨o, ho, h | h | ⟨e, he, h⟩⟩)
      · exact .inl h
      · exact .inr (.inl h)
      · exact .inr (.inr (.inr ⟨_, .inl rfl, h⟩))
      · exact .inr (.inr (.inr ⟨_, .inr ⟨o, ho, .inl rfl⟩, h⟩))
      · exact .inr (.inr (.inl ⟨o, ho, h⟩))
      · exact .inr (.inr (.inr ⟨_, .inr ⟨o, ho, .inr ⟨e, he, rfl⟩⟩, h⟩))
    · rintro (h | h | ⟨o, ho, h⟩ | ⟨l, rfl | ⟨o, ho, rfl | ⟨e, he, rfl⟩⟩, h⟩)
      · exact .inl (.inl h)
      · exact .inl (.inr (.inl h))
      · exact .inr ⟨o, ho, .inr (.inl h)⟩
      · exact .inl (.inr (.inr h))
      · exact .inr ⟨o, ho, .inl h⟩
      · exact .inr ⟨o, ho, .inr (.inr ⟨e, he, h⟩)⟩
  · intro o ho i v rc
    have e1 := fun v => M_r05_large_L1_eq o v (ht.op o ho).effs.lt
    have a1 : decide ((o.Pre.length : Int) > 64) = decide (o.Pre.length > 64) := by congr 1; apply propext; omega
    have a2 : decide ((o.Effs.length : Int) > 64) = decide (o.Effs.length > 64) := by congr 1; apply propext; omega
    have e3 : ∀ v, M_r05_large_L1 o ((((o.Effs.map cGEffect).length : Int)).toNat + 1) v 0 = some (v || o.Effs.any fun e => decide (e.When.length > 64)) := fun v => by
      rw [e1, rg_any (q := fun e : GEffect => decide (e.When.length > 64)), M_r05_large_L1_E]
      intro e _ i v rc
      rw [M_r05_large_L1_B, ixv, sel_or, List.length_map]
      congr 2
      congr 1; apply propext; omega
    rw [M_r05_large_L2_B, ixv]
    simp only [e3]
    simp only [List.length_map, a1, a2]
    cases v <;> cases decide (o.Pre.length > 64) <;> cases decide (o.Effs.length > 64) <;> rfl
def outF (t : GTask) : Bool := t.Vars.any (fun n => !decide (1 ≤ n ∧ n ≤ 64)) || t.Ops.any (fun o => !decide (0 ≤ o.Cost ∧ o.Cost ≤ 1048576))
theorem ref_out (t : GTask) (ht : ShT t) : M_r05_outside t = some (outF t) := by
  have e1 := M_r05_outside_L1_eq t false ht.vars.lt
  have e2 := fun v => M_r05_outside_L2_eq t v ht.ops.lt
  rw [M_r05_outside, e1, rg_any (q := fun n : Int => !decide (1 ≤ n ∧ n ≤ 64)), M_r05_outside_L1_E, ob1_some, e2, rg_any (q := fun o : GOp => !decide (0 ≤ o.Cost ∧ o.Cost ≤ 1048576)), M_r05_outside_L2_E, Bool.false_or, outF]
  · intro o _ i v rc
    rw [M_r05_outside_L2_B, ixv, sel_or, sel_or]
    congr 2
    rw [Bool.eq_iff_iff, Bool.or_eq_true, decide_eq_true_iff, decide_eq_true_iff, Bool.not_eq_true', decide_eq_false_iff_not]
    omega
  · intro n _ i v rc
    rw [M_r05_outside_L1_B, ixv, sel_or, sel_or]
    congr 2
    rw [Bool.eq_iff_iff, Bool.or_eq_true, decide_eq_true_iff, decide_eq_true_iff, Bool.not_eq_true', decide_eq_false_iff_not]
    omega
def badF (t : GTask) : Bool := !(stateF t.Vars t.Init && propF t.Vars (-1) t.Goal) || t.Ops.any fun o => !propF t.Vars (-1) o.Pre || o.Effs.any fun e => !effF t.Vars e
theorem ref_bad (t : GTask) (ht : ShT t) : M_r05_malformed t = some (badF t) := by
  have e2 := fun v => M_r05_malformed_L2_eq t v ht.ops.lt
  rw [M_r05_malformed, state_eq t.Vars t.Init ht.init, proper_eq t.Vars t.Goal ht.goal]
  have hv : ∀ K : Bool → Option Bool, ob1 (ob1 (some (stateF t.Vars t.Init)) (fun z5 => sel (!z5) (some true) (ob1 (some (propF t.Vars (-1) t.Goal)) (fun z6 => some (!z6))))) K = K (!(stateF t.Vars t.Init && propF t.Vars (-1) t.Goal)) := fun K => by
    cases stateF t.Vars t.Init <;> cases propF t.Vars (-1) t.Goal <;> rfl
  rw [hv, e2, rg_any (q := fun o : GOp => !propF t.Vars (-1) o.Pre || o.Effs.any fun e => !effF t.Vars e), M_r05_malformed_L2_E, badF]
  intro o ho i v rc
  have hso := ht.op o ho
  have e1 := fun v => M_r05_malformed_L1_eq t o v hso.effs.lt
  have e3 : ∀ v, M_r05_malformed_L1 t o ((((o.Effs.map cGEffect).length : Int)).toNat + 1) v 0 = some (v || o.Effs.any fun e => !effF t.Vars e) := fun v => by
    rw [e1, rg_any (q := fun e : GEffect => !effF t.Vars e), M_r05_malformed_L1_E]
    intro e he i v rc
    rw [M_r05_malformed_L1_B, ixv, proper_eq t.Vars e.When (hso.when e he), proper_eq t.Vars [(e.Var, e.Val)] (by show (1 : Nat) ≤ _; decide), ob1_some, ob1_some, sel_or, sel_or, effF]
    cases propF t.Vars (-1) e.When <;> cases propF t.Vars (-1) [(e.Var, e.Val)] <;> rfl
  rw [M_r05_malformed_L2_B, ixv, proper_eq t.Vars o.Pre hso.pre]
  simp only [e3]
  cases v <;> cases propF t.Vars (-1) o.Pre <;> rfl
def misF (t : GTask) : Bool := t.Ops.any fun o => decide (o.Name.size > 256) || !(bl o.Name).all charF
theorem ref_mis (t : GTask) (ht : ShT t) : M_r05_misnamed t = some (misF t) := by
  have e2 := M_r05_misnamed_L2_eq t false ht.ops.lt
  rw [M_r05_misnamed, e2, rg_any (q := fun o : GOp => decide (o.Name.size > 256) || !(bl o.Name).all charF), M_r05_misnamed_L2_E, Bool.false_or, misF]
  intro o ho i v rc
  have hso := (ht.op o ho).name
  have e3 : ∀ v, M_r05_misnamed_L1 o (((o.Name.size : Int)).toNat + 1) v 0 = some (v || !(bl o.Name).all charF) := fun v => by
    rw [M_r05_misnamed_L1_eq o v (m := o.Name.size) rfl (by omega)]
    have := rn_any (B := M_r05_misnamed_L1_B o) (E := M_r05_misnamed_L1_E o) (q := fun k => !(match (bl o.Name)[k]? with | some c => charF c | none => false)) (m := o.Name.size) (n := 0) (v := v) (fun k _ hk v rc => by
      obtain ⟨c, hc, hb⟩ := byt_at o.Name k (by omega)
      rw [M_r05_misnamed_L1_B, hb, hc, sel_dec, grd_t (by omega), grd_t (by omega), grd_t (by omega), grd_t (by omega)]
      simp only [charF]
      by_cases h1 : ((c.toNat : Int)) < 32
      · rw [if_pos h1, sel_or, decide_eq_false (by omega)]; rfl
      · rw [if_neg h1, sel_or]
        congr 2
        rw [Bool.eq_iff_iff, Bool.not_eq_true', decide_eq_true_iff, decide_eq_false_iff_not]
        omega)
    have e0 : Rn (M_r05_misnamed_L1_B o) (M_r05_misnamed_L1_E o) o.Name.size 0 v = _ := this
    rw [e0, M_r05_misnamed_L1_E, ← range_bytes]
    congr 2
    rw [Bool.eq_iff_iff, Bool.not_eq_true', List.all_eq_false]
    simp only [List.any_eq_true, Bool.not_eq_true', Bool.eq_false_iff, ne_eq]
    first | done | exact Iff.rfl
  rw [M_r05_misnamed_L2_B, ixv]
  simp only [e3]
  have a1 : decide ((o.Name.size : Int) > 256) = decide (o.Name.size > 256) := by congr 1; apply propext; omega
  rw [a1]
  cases v <;> cases decide (o.Name.size > 256) <;> rfl
theorem any_not {α : Type} (l : List α) (p : α → Bool) : (l.any fun x => !p x) = !l.all p := by rw [List.not_all_eq_any_not]
theorem ref_check (t : GTask) (ht : ShT t) : M_r05_Check t = some (erN (checkF t)) := by
  rw [M_r05_Check, ref_large t ht, ref_out t ht, ref_bad t ht, ref_mis t ht, ob1_some, ob1_some, ob1_some, ob1_some, checkF]
  have hb : badF t = !(stateF t.Vars t.Init && ((condsF t).all (propF t.Vars (-1)) && t.Ops.all (fun o => o.Effs.all (fun e => propF t.Vars (-1) [(e.Var, e.Val)])))) := by
    rw [Bool.eq_iff_iff, badF, Bool.not_eq_true', Bool.eq_false_iff, ne_eq, ← Decidable.not_iff_not, Decidable.not_not]
    simp only [Bool.or_eq_true, Bool.not_eq_true', Bool.and_eq_true, List.any_eq_true, List.all_eq_true, condsF, List.mem_cons, List.mem_flatMap, condsO, List.mem_map, effF, Bool.eq_false_iff, ne_eq]
    constructor
    · intro h
      have h1 : stateF t.Vars t.Init = true ∧ propF t.Vars (-1) t.Goal = true := Decidable.byContradiction fun hh => h (.inl hh)
      have h2 : ∀ o ∈ t.Ops, propF t.Vars (-1) o.Pre = true ∧ ∀ e ∈ o.Effs, propF t.Vars (-1) e.When = true ∧ propF t.Vars (-1) [(e.Var, e.Val)] = true := fun o ho =>
        ⟨Decidable.byContradiction fun hh => h (.inr ⟨o, ho, .inl hh⟩), fun e he => Decidable.byContradiction fun hh => h (.inr ⟨o, ho, .inr ⟨e, he, hh⟩⟩)⟩
      refine ⟨h1.1, fun x hx => ?_, fun o ho e he => ((h2 o ho).2 e he).2⟩
      rcases hx with rfl | ⟨o, ho, rfl | ⟨e, he, rfl⟩⟩
      · exact h1.2
      · exact (h2 o ho).1
      · exact ((h2 o ho).2 e he).1
    · rintro ⟨h1, h2, h3⟩ (h | ⟨o, ho, h | ⟨e, he, h⟩⟩)
      · exact h ⟨h1, h2 _ (.inl rfl)⟩
      · exact h (h2 _ (.inr ⟨o, ho, .inl rfl⟩))
      · exact h ⟨h2 _ (.inr ⟨o, ho, .inr ⟨e, he, rfl⟩⟩), h3 o ho e he⟩
  have hm : misF t = !t.Ops.all (fun o => (bl o.Name).all charF && decide (o.Name.size ≤ 256)) := by
    rw [← any_not, misF]
    congr 1
    funext o
    have : decide (o.Name.size > 256) = !decide (o.Name.size ≤ 256) := by rw [Bool.eq_iff_iff, decide_eq_true_iff, Bool.not_eq_true', decide_eq_false_iff_not]; omega
    rw [this]
    cases decide (o.Name.size ≤ 256) <;> cases (bl o.Name).all charF <;> rfl
  rw [hb, hm, outF, any_not, any_not]
  cases largeF t with
  | true => rfl
  | false =>
    rw [sel_ff, if_neg (by decide)]
    cases t.Vars.all (fun n => decide (1 ≤ n ∧ n ≤ 64)) with
    | false => rfl
    | true =>
      cases t.Ops.all (fun o => decide (0 ≤ o.Cost ∧ o.Cost ≤ 1048576)) with
      | false => rfl
      | true =>
        cases (stateF t.Vars t.Init && ((condsF t).all (propF t.Vars (-1)) && t.Ops.all (fun o => o.Effs.all (fun e => propF t.Vars (-1) [(e.Var, e.Val)])))) with
        | false => rfl
        | true =>
          cases t.Ops.all (fun o => (bl o.Name).all charF && decide (o.Name.size ≤ 256)) <;> rfl
end Go.Proofs.YtohjegemooakpaaGreat.Am
/- Plain law: certify.FromTable, its reference, CertifyTables. -/
namespace Go.Proofs.YtohjegemooakpaaGreat.Am
open Go.RowKit
theorem awake100 : M_l32_awake 100 = some true := by kernel_rfl
/-- a pattern's variables ascend, and are those of the task -/
def ascR (V : Nat) : Int → List Int → Bool
  | _, [] => true
  | last, y :: r => decide (last < y) && (decide (y < V) && ascR V y r)
def szs (v p : List Int) : List Int := p.map fun y => v.getD y.toNat 0
theorem szs_cons (v : List Int) (y : Int) (r : List Int) : szs v (y :: r) = v.getD y.toNat 0 :: szs v r := rfl
def prodN : List Int → Nat
  | [] => 1
  | k :: r => k.toNat * prodN r
theorem prodN_pos : ∀ {l : List Int}, (∀ k ∈ l, 1 ≤ k ∧ k ≤ 64) → 0 < prodN l
  | [], _ => Nat.one_pos
  | k :: r, h => by
    have := h k (List.mem_cons_self ..)
    exact Nat.mul_pos (by omega) (prodN_pos fun x hx => h x (List.mem_cons_of_mem _ hx))
def Prev (p : List Int) (n : Nat) (last : Int) : Prop := (n = 0 ∧ last = -1) ∨ ∃ m, n = m + 1 ∧ p[m]? = some last ∧ 0 ≤ last
theorem mul_min {m k : Nat} (hk : 1 ≤ k) : min (min (m : Int) 1125899906842624 * (k : Int)) 1125899906842624 = min ((m * k : Nat) : Int) 1125899906842624 := by
  rw [Int.natCast_mul]
  by_cases h : (m : Int) ≤ 1125899906842624
  · rw [Int.min_eq_left h]
  · rw [Int.min_eq_right (by omega : (1125899906842624 : Int) ≤ m)]
    have h1 : (1125899906842624 : Int) * 1 ≤ 1125899906842624 * (k : Int) := Int.mul_le_mul_of_nonneg_left (by omega) (by decide)
    have h2 : (1125899906842624 : Int) * (k : Int) ≤ (m : Int) * (k : Int) := Int.mul_le_mul_of_nonneg_right (by omega) (by omega)
    omega
section
variable {t : GTask} {p : List Int} (hk : ∀ k ∈ t.Vars, 1 ≤ k ∧ k ≤ 64)
theorem getD_mem {l : List Int} {i : Int} (h0 : 0 ≤ i) (h1 : i < l.length) : l.getD i.toNat 0 ∈ l := by
  have h : i.toNat < l.length := by omega
  rw [List.getD_eq_getElem?_getD, List.getElem?_eq_getElem h]
  exact List.getElem_mem h
include hk in
theorem pat_loop : ∀ (r : List Int) (n m : Nat) (last : Int), p.drop n = r → n ≤ 200 → Prev p n last → n + r.length ≤ 200 → Rg (M_certify_FromTable_L1_B t p) (M_certify_FromTable_L1_E t p) r n (min (m : Int) 1125899906842624) =
    some (if ascR t.Vars.length last r = true then .inl (min ((m * prodN (szs t.Vars r) : Nat) : Int) 1125899906842624) else .inr ({ Bound := 0, Nogoods := [] }, .no 2))
  | [], n, m, last, _, _, _, _ => by rw [Rg, ascR, if_pos rfl, szs, List.map_nil, prodN, Nat.mul_one]; rfl
  | y :: r, n, m, last, hd, hn, hp, hl => by
    obtain ⟨hy, hd', hlt⟩ := drop_cons hd
    rw [List.length_cons] at hl
    rw [Rg, M_certify_FromTable_L1_B, ixv, sel_dec, sel_dec, List.length_map, ascR]
    have hlast : -1 ≤ last := by rcases hp with ⟨_, rfl⟩ | ⟨_, _, _, h⟩ <;> omega
    by_cases h0 : y < 0
    · rw [if_pos h0, decide_eq_false (by omega : ¬ last < y)]; rfl
    · rw [if_neg h0]
      by_cases h1 : y ≥ (t.Vars.length : Int)
      · rw [if_pos h1, decide_eq_false (by omega : ¬ y < (t.Vars.length : Int)), Bool.false_and, Bool.and_false]; rfl
      · rw [if_neg h1, decide_eq_true (by omega : y < (t.Vars.length : Int)), Bool.true_and]
        have hk' := hk _ (getD_mem (l := t.Vars) (i := y) (by omega) (by omega))
        obtain ⟨k, hkk⟩ : ∃ k : Nat, t.Vars.getD y.toNat 0 = k := ⟨(t.Vars.getD y.toNat 0).toNat, by omega⟩
        have hstep : ix t.Vars y (fun y36 => Rg (M_certify_FromTable_L1_B t p) (M_certify_FromTable_L1_E t p) r ((n : Int) + 1) (min (IntKind.i64.wrap (min (m : Int) 1125899906842624 * y36)) 1125899906842624)) =
            some (if ascR t.Vars.length y r = true then .inl (min ((m * prodN (szs t.Vars (y :: r)) : Nat) : Int) 1125899906842624) else .inr ({ Bound := 0, Nogoods := [] }, .no 2)) := by
          rw [ix_getD (d := 0) (by omega) (by omega), hkk]
          have hb : min (m : Int) 1125899906842624 * (k : Int) ≤ 1125899906842624 * 64 := Int.mul_le_mul (by omega) (by omega) (by omega) (by decide)
          have hb0 : 0 ≤ min (m : Int) 1125899906842624 * (k : Int) := Int.mul_nonneg (by omega) (by omega)
          rw [w64 (by omega) (by omega), mul_min (by omega)]
          have := pat_loop r (n + 1) (m * k) y hd' (by omega) (.inr ⟨n, rfl, hy, by omega⟩) (by omega)
          rw [show ((n + 1 : Nat) : Int) = (n : Int) + 1 from rfl] at this
          rw [this, szs_cons, prodN, hkk, Int.toNat_natCast, Nat.mul_assoc]
        rw [sel_dec]
        rcases hp with ⟨h3, h4⟩ | ⟨i, h3, h4, h5⟩
        · rw [if_neg (by omega), hstep, decide_eq_true (by omega : last < y), Bool.true_and]
        · rw [if_pos (by omega), w64 (by omega) (by omega), show (n : Int) - 1 = ((i : Nat) : Int) from by omega, ix_at h4, sel_dec]
          by_cases h6 : last ≥ y
          · rw [if_pos h6, decide_eq_false (by omega : ¬ last < y)]; rfl
          · rw [if_neg h6, hstep, decide_eq_true (by omega : last < y), Bool.true_and]
theorem right_loop : ∀ (r : List Int) (n : Nat) (last : Int), p.drop n = r → n ≤ 200 → Prev p n last → n + r.length ≤ 200 → Rg (M_r32_right_L1_B t p) (M_r32_right_L1_E t p) r n () = some (ascR t.Vars.length last r)
  | [], n, last, _, _, _, _ => rfl
  | y :: r, n, last, hd, hn, hp, hl => by
    obtain ⟨hy, hd', hlt⟩ := drop_cons hd
    rw [List.length_cons] at hl
    rw [Rg, M_r32_right_L1_B, ixv, sel_dec, sel_dec, List.length_map, ascR]
    have hlast : -1 ≤ last := by rcases hp with ⟨_, rfl⟩ | ⟨_, _, _, h⟩ <;> omega
    by_cases h0 : y < 0
    · rw [if_pos h0, decide_eq_false (by omega : ¬ last < y)]; rfl
    · rw [if_neg h0]
      by_cases h1 : y ≥ (t.Vars.length : Int)
      · rw [if_pos h1, decide_eq_false (by omega : ¬ y < (t.Vars.length : Int)), Bool.false_and, Bool.and_false]
      · rw [if_neg h1, decide_eq_true (by omega : y < (t.Vars.length : Int)), Bool.true_and]
        have hstep := right_loop r (n + 1) y hd' (by omega) (.inr ⟨n, rfl, hy, by omega⟩) (by omega)
        rw [show ((n + 1 : Nat) : Int) = (n : Int) + 1 from rfl] at hstep
        rw [sel_dec]
        rcases hp with ⟨h3, h4⟩ | ⟨i, h3, h4, h5⟩
        · rw [if_neg (by omega), hstep, decide_eq_true (by omega : last < y), Bool.true_and]
        · rw [if_pos (by omega), w64 (by omega) (by omega), show (n : Int) - 1 = ((i : Nat) : Int) from by omega, ix_at h4, sel_dec]
          by_cases h6 : last ≥ y
          · rw [if_pos h6, decide_eq_false (by omega : ¬ last < y)]; rfl
          · rw [if_neg h6, hstep, decide_eq_true (by omega : last < y), Bool.true_and]
end
theorem ascR_mem {V : Nat} : ∀ {p : List Int} {last : Int}, -1 ≤ last → ascR V last p = true → ∀ y ∈ p, 0 ≤ y ∧ y < V
  | [], _, _, _, y, hy => by cases hy
  | x :: r, last, h0, h, y, hy => by
    rw [ascR, Bool.and_eq_true, Bool.and_eq_true, decide_eq_true_iff, decide_eq_true_iff] at h
    rcases List.mem_cons.1 hy with rfl | hy
    · omega
    · exact ascR_mem (by omega) h.2.2 y hy
theorem ascR_len {V : Nat} : ∀ {p : List Int} {last : Int}, -1 ≤ last → last < V → ascR V last p = true → (p.length : Int) ≤ V - 1 - last
  | [], last, h0, h1, _ => by rw [List.length_nil]; omega
  | x :: r, last, h0, h1, h => by
    rw [ascR, Bool.and_eq_true, Bool.and_eq_true, decide_eq_true_iff, decide_eq_true_iff] at h
    have := ascR_len (by omega) h.2.1 h.2.2
    rw [List.length_cons]
    omega
theorem manyF_prod (L : Nat) : ∀ (r : List Int) (n : Nat), (∀ k ∈ r, 1 ≤ k ∧ k ≤ 64) → 1 ≤ n → n ≤ L + 1 → manyF L r n = if n * prodN r ≤ L then ((n * prodN r : Nat) : Int) else (L : Int) + 1
  | [], n, _, h1, h2 => by
    rw [manyF, prodN, Nat.mul_one]
    split <;> omega
  | k :: r, n, hk, h1, h2 => by
    obtain ⟨k1, k2⟩ := hk k (List.mem_cons_self ..)
    have hp := prodN_pos fun x hx => hk x (List.mem_cons_of_mem _ hx)
    obtain ⟨q, rfl⟩ : ∃ q : Nat, k = q := ⟨k.toNat, by omega⟩
    rw [manyF, prodN, Int.toNat_natCast]
    by_cases hb : n * q ≤ L
    · have hq : q ≤ L := Nat.le_trans (Nat.le_mul_of_pos_left q (by omega)) hb
      rw [show min (max (q : Int) 0) ((L : Int) + 1) = (q : Int) from by omega, ← Int.natCast_mul, if_neg (by omega), manyF_prod L r (n * q) (fun x hx => hk x (List.mem_cons_of_mem _ hx)) (Nat.mul_pos (by omega) (by omega)) (by omega), Nat.mul_assoc]
    · have h3 : ¬ n * (q * prodN r) ≤ L := fun h => hb (Nat.le_trans (by rw [← Nat.mul_assoc]; exact Nat.le_mul_of_pos_right _ hp) h)
      rw [if_neg h3]
      have h4 : (n : Int) * min (max (q : Int) 0) ((L : Int) + 1) > L := by
        by_cases h5 : (q : Int) ≤ (L : Int) + 1
        · rw [show min (max (q : Int) 0) ((L : Int) + 1) = (q : Int) from by omega, ← Int.natCast_mul]; omega
        · rw [show min (max (q : Int) 0) ((L : Int) + 1) = ((L + 1 : Nat) : Int) from by omega, ← Int.natCast_mul]
          have := Nat.le_mul_of_pos_left (L + 1) (show 0 < n by omega)
          omega
      rw [if_pos h4]
/-- the facts of a combination, by its number -/
def combR (v : List Int) : List Int → Nat → List Fact
  | [], _ => []
  | y :: r, n => (y, ((n % (v.getD y.toNat 0).toNat : Nat) : Int)) :: combR v r (n / (v.getD y.toNat 0).toNat)
def combF (v p : List Int) (n : Nat) : List Fact := (combR v p.reverse n).reverse
theorem combR_len (v : List Int) : ∀ (q : List Int) (n : Nat), (combR v q n).length = q.length
  | [], _ => rfl
  | _ :: r, _ => by rw [combR, List.length_cons, combR_len v r, List.length_cons]
theorem comb_loop {t : GTask} {p : List Int} (hk : ∀ k ∈ t.Vars, 1 ≤ k ∧ k ≤ 64) (hp : ∀ y ∈ p, 0 ≤ y ∧ y < t.Vars.length) (hpl : p.length ≤ 64) : ∀ (j fuel n : Nat) (out : List Fact), j ≤ p.length → out.length = p.length → j < fuel → n ≤ 1000000 →
    M_certify_combination_L1 t p fuel (n : Int) ((j : Int) - 1) out = some (combF t.Vars (p.take j) n ++ out.drop j)
  | j, 0, n, out, _, _, h, _ => absurd h (Nat.not_lt_zero _)
  | 0, f + 1, n, out, _, hl, _, _ => by
    rw [M_certify_combination_L1, sel_dec, if_neg (by omega), grd_t (by omega)]
    rfl
  | j + 1, f + 1, n, out, hj, hl, hf, hn => by
    have hy : p[j]? = some p[j] := List.getElem?_eq_getElem (by omega)
    obtain ⟨y, hye⟩ : ∃ y, p[j] = y := ⟨_, rfl⟩
    rw [hye] at hy
    obtain ⟨y0, y1⟩ := hp y (List.mem_of_getElem? hy)
    have hkk := hk _ (getD_mem y0 y1)
    obtain ⟨k, hke⟩ : ∃ k : Nat, t.Vars.getD y.toNat 0 = k := ⟨(t.Vars.getD y.toNat 0).toNat, by omega⟩
    have ho : out[j]? = some out[j] := List.getElem?_eq_getElem (by omega)
    have hmod : (n : Int).tmod (k : Int) = ((n % k : Nat) : Int) := by rw [Int.tmod_eq_emod_of_nonneg (by omega)]; rfl
    have hdiv : (n : Int).tdiv (k : Int) = ((n / k : Nat) : Int) := by rw [Int.tdiv_eq_ediv_of_nonneg (by omega)]; rfl
    have hle : n / k ≤ n := Nat.div_le_self _ _
    have w1 : IntKind.i64.wrap ((n / k : Nat) : Int) = ((n / k : Nat) : Int) := by
      generalize n / k = q at hle
      exact w64 (by omega) (by omega)
    rw [M_certify_combination_L1, sel_dec, if_pos (by omega), show ((j + 1 : Nat) : Int) - 1 = ((j : Nat) : Int) from by omega, ix_at hy, ix_getD (d := 0) y0 y1, ix_at hy, Int.toNat_natCast, ixn_at ho, hke, grd_t (by omega), grd_t (by omega), hmod, hdiv, w1, w64 (by omega) (by omega),
      comb_loop hk hp hpl j f (n / k) _ (by omega) (by rw [List.length_set]; exact hl) (by omega) (Nat.le_trans hle hn)]
    congr 1
    have h1 : (out.set j (y, ((n % k : Nat) : Int))).drop j = (y, ((n % k : Nat) : Int)) :: out.drop (j + 1) := by
      rw [List.drop_eq_getElem_cons (by rw [List.length_set]; omega), List.getElem_set_self, List.drop_set_of_lt (by omega)]
    rw [h1, combF, combF, List.take_add_one, hy, Option.toList_some, List.reverse_append, List.reverse_singleton, List.singleton_append, combR, hke, Int.toNat_natCast, List.reverse_cons, List.append_assoc, List.singleton_append]
theorem comb_eq {t : GTask} {p : List Int} (hk : ∀ k ∈ t.Vars, 1 ≤ k ∧ k ≤ 64) (hp : ∀ y ∈ p, 0 ≤ y ∧ y < t.Vars.length) (hpl : p.length ≤ 64) (n : Nat) (hn : n ≤ 1000000) : M_certify_combination 100 t p n = some (combF t.Vars p n) := by
  have := comb_loop hk hp hpl p.length 100 n (List.replicate p.length (0, 0)) (Nat.le_refl _) (by simp) (by omega) hn
  rw [List.take_length, List.drop_of_length_le (by simp), List.append_nil] at this
  rw [M_certify_combination, List.length_map, grd_t (by omega), grd_t (by omega), w64 (by omega) (by omega), Int.toNat_natCast]
  exact this
-- the states of the pattern's sizes
theorem statesG_app : ∀ (a b : List Int) (out : List (List Int)), statesG (a ++ b) out = statesG b (statesG a out)
  | [], _, _ => rfl
  | k :: a, b, out => by rw [List.cons_append, statesG, statesG, statesG_app a b]
theorem extF_get (s : List Int) : ∀ (m i : Nat) (z : Int), i < m → (extF s m z)[i]? = some (s ++ [z + i])
  | 0, i, z, h => absurd h (Nat.not_lt_zero _)
  | m + 1, 0, z, _ => by rw [extF, List.getElem?_cons_zero, show z + ((0 : Nat) : Int) = z from by omega]
  | m + 1, i + 1, z, h => by rw [extF, List.getElem?_cons_succ, extF_get s m i (z + 1) (by omega), show z + 1 + (i : Int) = z + ((i + 1 : Nat) : Int) from by omega]
theorem flat_get (k : Nat) (hk : 0 < k) : ∀ (L : List (List Int)) (n : Nat) (x : List Int), (L.flatMap fun s => extF s k 0)[n]? = some x → ∃ s, L[n / k]? = some s ∧ x = s ++ [((n % k : Nat) : Int)]
  | [], n, x, h => by simp at h
  | s :: L, n, x, h => by
    rw [List.flatMap_cons] at h
    by_cases hn : n < k
    · rw [List.getElem?_append_left (by rw [extF_len]; exact hn), extF_get s k n 0 hn] at h
      refine ⟨s, by rw [Nat.div_eq_of_lt hn]; rfl, ?_⟩
      rw [Nat.mod_eq_of_lt hn, ← Option.some.inj h, Int.zero_add]
    · rw [List.getElem?_append_right (by rw [extF_len]; omega), extF_len] at h
      obtain ⟨u, h1, h2⟩ := flat_get k hk L (n - k) x h
      have hd : n / k = (n - k) / k + 1 := by rw [← Nat.div_eq_sub_div hk (by omega)]
      have hm : (n - k) % k = n % k := (Nat.mod_eq_sub_mod (by omega)).symm
      exact ⟨u, by rw [hd, List.getElem?_cons_succ]; exact h1, by rw [← hm]; exact h2⟩
theorem szs_app (v a b : List Int) : szs v (a ++ b) = szs v a ++ szs v b := List.map_append
theorem states_comb (v : List Int) : ∀ (q : List Int) (n : Nat) (s : List Int), (∀ y ∈ q, 1 ≤ v.getD y.toNat 0) → (statesG (szs v q.reverse) [[]])[n]? = some s → s.length = q.length ∧ List.zip q.reverse s = (combR v q n).reverse
  | [], n, s, _, h => by
    have h' : ([[]] : List (List Int))[n]? = some s := h
    cases n with
    | zero => simp at h'; subst h'; exact ⟨rfl, rfl⟩
    | succ n => simp at h'
  | y :: q, n, s, hv, h => by
    rw [List.reverse_cons, szs_app, statesG_app] at h
    have hy := hv y (List.mem_cons_self ..)
    obtain ⟨u, h1, h2⟩ := flat_get (v.getD y.toNat 0).toNat (by omega) _ n s h
    obtain ⟨h3, h4⟩ := states_comb v q _ u (fun z hz => hv z (List.mem_cons_of_mem _ hz)) h1
    subst h2
    refine ⟨by simp [h3], ?_⟩
    rw [List.reverse_cons, List.zip_append (by rw [List.length_reverse, h3]), h4, combR, List.reverse_cons]
    rfl
theorem statesG_len2 : ∀ (r : List Int) (out : List (List Int)), (statesG r out).length = out.length * prodN r
  | [], out => by rw [statesG, prodN, Nat.mul_one]
  | k :: r, out => by rw [statesG, statesG_len2 r, flat_ext_len, prodN, Nat.mul_assoc]
theorem states3p (vars : List Int) : ∀ (r : List Int) (i : Int) (out : List (List Int)) (c : Nat), (∀ k ∈ r, 1 ≤ k ∧ k ≤ 64) → (∀ s ∈ out, s.length ≤ c) → c + r.length ≤ 1000 → out.length * prodN r ≤ 100000 →
    Rg (M_b_States_L3_B vars) (M_b_States_L3_E vars) r i out = some (statesG r out)
  | [], i, out, c, _, _, _, _ => rfl
  | k :: r, i, out, c, hk, hs, hc, hm => by
    obtain ⟨k1, k2⟩ := hk k (List.mem_cons_self ..)
    have hp := prodN_pos fun x hx => hk x (List.mem_cons_of_mem _ hx)
    rw [List.length_cons] at hc
    obtain ⟨m, rfl⟩ : ∃ m : Nat, k = m := ⟨k.toNat, by omega⟩
    rw [prodN, Int.toNat_natCast, ← Nat.mul_assoc] at hm
    have hle : out.length * m ≤ 100000 := Nat.le_trans (Nat.le_mul_of_pos_right _ hp) hm
    have hle2 : out.length ≤ 100000 := Nat.le_trans (Nat.le_mul_of_pos_right _ (by omega)) hle
    have hlen : (out.flatMap fun s => extF s m 0).length = out.length * m := flat_ext_len m out
    have h2 := states2 out (m : Int) (by omega) out 0 [] (fun s hs' => by have := hs s hs'; omega) (by rw [Int.toNat_natCast]; simp; omega)
    rw [List.nil_append, Int.toNat_natCast] at h2
    rw [Rg, M_b_States_L3_B, ixv, M_b_States_L2_eq out (m : Int) [] (by omega), h2, ob1_some, grd_t (by rw [hlen]; omega), statesG, Int.toNat_natCast]
    refine states3p vars r _ _ (c + 1) (fun u hu => hk u (List.mem_cons_of_mem _ hu)) (fun s hs' => ?_) (by omega) (by rw [hlen]; exact hm)
    obtain ⟨u, hu, hsu⟩ := List.mem_flatMap.1 hs'
    obtain ⟨x, -, -, rfl⟩ := (extF_mem u s m 0).1 hsu
    have := hs u hu
    rw [List.length_append, List.length_singleton]; omega
-- the tables' nogoods
def skipT (b y : Int) : Bool := (decide (b ≥ 0) && decide (y ≥ b)) || (y == 1125899906842624)
def tabL (v p : List Int) (b : Int) : List Int → Nat → List Nogood
  | [], _ => []
  | y :: r, n => if skipT b y = true then tabL v p b r (n + 1) else (combF v p n, if b < 0 then 0 else y) :: tabL v p b r (n + 1)
theorem tabL_len (v p : List Int) (b : Int) : ∀ (r : List Int) (n : Nat), (tabL v p b r n).length ≤ r.length
  | [], _ => Nat.le_refl _
  | y :: r, n => by
    have := tabL_len v p b r (n + 1)
    rw [tabL]
    split
    · rw [List.length_cons]; omega
    · rw [List.length_cons, List.length_cons]; omega
theorem tab_loop {t : GTask} {p vals : List Int} {b : Int} (hk : ∀ k ∈ t.Vars, 1 ≤ k ∧ k ≤ 64) (hp : ∀ y ∈ p, 0 ≤ y ∧ y < t.Vars.length) (hpl : p.length ≤ 64) : ∀ (r : List Int) (n : Nat) (v : List Nogood), n + r.length ≤ 600 → v.length ≤ n →
    Rg (M_certify_FromTable_L2_B t p vals b 100) (M_certify_FromTable_L2_E t p vals b 100) r n v = some ({ Bound := b, Nogoods := v ++ tabL t.Vars p b r n }, .nil)
  | [], n, v, h, hv => by
    rw [Rg, M_certify_FromTable_L2_E, grd_t (by omega), tabL, List.append_nil]
  | y :: r, n, v, h, hv => by
    rw [List.length_cons] at h
    have ih := fun (w : List Nogood) (hw : w.length ≤ n + 1) => tab_loop (vals := vals) (b := b) hk hp hpl r (n + 1) w (by omega) hw
    rw [show ((n + 1 : Nat) : Int) = (n : Int) + 1 from rfl] at ih
    have hsk : (sel (decide (b ≥ 0)) (sel (decide (y ≥ b)) (some (.inr ())) (sel (y == 1125899906842624) (some (.inr ())) (some (.inl ())))) (sel (y == 1125899906842624) (some (.inr ())) (some (.inl ()))) : Option (Unit ⊕ Unit)) = some (if skipT b y = true then .inr () else .inl ()) := by
      unfold skipT
      cases decide (b ≥ 0) <;> cases decide (y ≥ b) <;> cases (y == 1125899906842624) <;> rfl
    rw [Rg, M_certify_FromTable_L2_B, ixv, hsk, ob1_some, tabL]
    by_cases hs : skipT b y = true
    · rw [if_pos hs, if_pos hs, osum_inr, ih v (by omega)]
    · rw [if_neg hs, if_neg hs, osum_inl, show (((v.length : Nat) : Int) == 4096) = false from by rw [beq_eq_false_iff_ne]; omega, sel_ff, sel_dec, comb_eq hk hp hpl n (by omega), ob1_some, ob1_some, grd_t (by omega)]
      by_cases hb : b < 0
      · rw [if_pos hb, if_pos hb, ih _ (by simp; omega), List.append_assoc]; rfl
      · rw [if_neg hb, if_neg hb, grd_t (by omega), ih _ (by simp; omega), List.append_assoc]; rfl
theorem zip_loop {p s : List Int} (hl : s.length = p.length) (hpl : p.length ≤ 64) : ∀ (r : List Int) (n : Nat) (v : List Fact), p.drop n = r → v.length = n → n ≤ p.length → Rg (M_r32_FromTable_L2_B p s) (M_r32_FromTable_L2_E p s) r n v = some (v ++ List.zip r (s.drop n))
  | [], n, v, _, _, _ => by rw [Rg, M_r32_FromTable_L2_E, List.zip_nil_left, List.append_nil]
  | y :: r, n, v, hd, hv, hn => by
    obtain ⟨hy, hd', hlt⟩ := drop_cons hd
    have hs : s[n]? = some s[n] := List.getElem?_eq_getElem (by omega)
    have ih := zip_loop hl hpl r (n + 1) (v ++ [(y, s[n])]) hd' (by simp; omega) (by omega)
    rw [Rg, M_r32_FromTable_L2_B, ixv, ix_at hs, grd_t (by omega)]
    rw [show ((n + 1 : Nat) : Int) = (n : Int) + 1 from rfl] at ih
    rw [ih, List.append_assoc, List.drop_eq_getElem_cons (by omega : n < s.length), List.zip_cons_cons]
    rfl
theorem rtab_loop {v p vals : List Int} {b : Int} {S : List (List Int)} (hpl : p.length ≤ 64) (hS : ∀ n s, S[n]? = some s → s.length = p.length ∧ List.zip p s = combF v p n) (hl : S.length = vals.length) (hvl : vals.length ≤ 600) :
    ∀ (r : List (List Int)) (n : Nat) (w : List Nogood), S.drop n = r → w.length ≤ n → n ≤ S.length → Rg (M_r32_FromTable_L3_B p vals b S) (M_r32_FromTable_L3_E p vals b S) r n w = some (w ++ tabL v p b (vals.drop n) n)
  | [], n, w, hd, hw, hn => by
    have : S.length ≤ n := by rw [← List.drop_eq_nil_iff]; exact hd
    rw [Rg, M_r32_FromTable_L3_E, List.drop_of_length_le (by omega), tabL, List.append_nil]
  | s :: r, n, w, hd, hw, hn => by
    obtain ⟨hy, hd', hlt⟩ := drop_cons hd
    obtain ⟨h1, h2⟩ := hS n s hy
    have hv : vals[n]? = some vals[n] := List.getElem?_eq_getElem (by omega)
    obtain ⟨y, hye⟩ : ∃ y, vals[n] = y := ⟨_, rfl⟩
    rw [hye] at hv
    have ih := fun (u : List Nogood) (hu : u.length ≤ n + 1) => rtab_loop (b := b) hpl hS hl hvl r (n + 1) u hd' hu (by omega)
    rw [show ((n + 1 : Nat) : Int) = (n : Int) + 1 from rfl] at ih
    have hz := zip_loop h1 hpl p 0 [] (List.drop_zero ..) rfl (Nat.zero_le _)
    rw [List.nil_append, List.drop_zero, h2, show ((0 : Nat) : Int) = 0 from rfl] at hz
    rw [Rg, M_r32_FromTable_L3_B, ixv, ix_at hv, sel_dec, List.drop_eq_getElem_cons (by omega : n < vals.length), hye, tabL]
    have hd0 : (if b < 0 then some (0 : Int) else some y) = some (if b < 0 then 0 else y) := by split <;> rfl
    rw [hd0, ob1_some]
    have hsk : (sel (decide (b ≥ 0)) (ix vals (n : Int) (fun y468 => sel (decide (y468 ≥ b)) (some (.inr ())) (ix vals (n : Int) (fun y469 => sel (y469 == 1125899906842624) (some (.inr ())) (some (.inl (y469, (y469 == 1125899906842624)))))))) (ix vals (n : Int) (fun y470 => sel (y470 == 1125899906842624) (some (.inr ())) (some (.inl (y470, (y470 == 1125899906842624)))))) : Option ((Int × Bool) ⊕ Unit)) = some (if skipT b y = true then .inr () else .inl (y, (y == 1125899906842624))) := by
      simp only [ix_at hv]
      unfold skipT
      cases decide (b ≥ 0) <;> cases decide (y ≥ b) <;> cases (y == 1125899906842624) <;> rfl
    rw [hsk, ob1_some]
    by_cases hs : skipT b y = true
    · rw [if_pos hs, if_pos hs, osum_inr, ob1_some, ih w (by omega)]
    · rw [if_neg hs, if_neg hs, osum_inl]
      show ob1 (ob1 (M_r32_FromTable_L2 p s ((((p.map cI).length : Int)).toNat + 1) 0 []) _) _ = _
      rw [M_r32_FromTable_L2_eq p s [] (by omega), hz, ob1_some, grd_t (by omega), grd_t (by rw [combF, List.length_reverse, combR_len, List.length_reverse]; omega), ob1_some, ih _ (by simp; omega), List.append_assoc]
      rfl
theorem sizes_eq {t : GTask} {p : List Int} (hp : ∀ y ∈ p, 0 ≤ y ∧ y < t.Vars.length) (hpl : p.length ≤ 64) : M_r32_Sizes t p = some (szs t.Vars p) := by
  have key : ∀ (r : List Int) (i : Int) (v : List Int), (∀ y ∈ r, 0 ≤ y ∧ y < t.Vars.length) → v.length + r.length ≤ 1000 → Rg (M_r32_Sizes_L1_B t p) (M_r32_Sizes_L1_E t p) r i v = some (v ++ szs t.Vars r) := by
    intro r
    induction r with
    | nil => intro i v _ h; rw [Rg, M_r32_Sizes_L1_E, grd_t (by simp at h; omega), szs, List.map_nil, List.append_nil]
    | cons y r ih =>
      intro i v hr h
      rw [List.length_cons] at h
      obtain ⟨h0, h1⟩ := hr y (List.mem_cons_self ..)
      rw [Rg, M_r32_Sizes_L1_B, ixv, ix_getD (d := 0) h0 h1, grd_t (by omega), ih _ _ (fun z hz => hr z (List.mem_cons_of_mem _ hz)) (by simp; omega), List.append_assoc]
      rfl
  rw [M_r32_Sizes, M_r32_Sizes_L1_eq t p [] (by omega), key p 0 [] hp (by simp; omega), List.nil_append]
def badV (n : Int) : Bool := decide (n < 0) || decide (n > 1125899906842624)
theorem containsI_eq {l : List Int} {f : Int → Option Bool} {q : Int → Bool} (hl : Sh l) (h : ∀ y, f y = some (q y)) : M_s_ContainsFunc_int l f = some (l.any q) := by
  have key : ∀ (r : List Int) (n : Nat), ∃ z, Rg (M_s_IndexFunc_int_L1_B l f) (M_s_IndexFunc_int_L1_E l f) r n () = some z ∧ (0 ≤ z ↔ r.any q = true) := by
    intro r
    induction r with
    | nil => intro n; exact ⟨-1, rfl, by simp⟩
    | cons y r ih =>
      intro n
      rw [Rg]
      simp only [M_s_IndexFunc_int_L1_B, ixv, h y, ob1_some]
      cases hp : q y
      · obtain ⟨z, h1, h2⟩ := ih (n + 1)
        exact ⟨z, h1, by rw [h2, List.any_cons, hp, Bool.false_or]⟩
      · exact ⟨n, rfl, by simp [hp]⟩
  obtain ⟨z, h1, h2⟩ := key l 0
  rw [M_s_ContainsFunc_int, M_s_IndexFunc_int, M_s_IndexFunc_int_L1_eq _ _ hl.lt]
  rw [show ((0 : Nat) : Int) = 0 from rfl] at h1
  rw [h1, ob1_some]
  congr 1
  rw [Bool.eq_iff_iff, decide_eq_true_iff, ge_iff_le, h2]
theorem rbad_loop (vals : List Int) : ∀ (r : List Int) (i : Int) (v : Bool), Rg (M_r32_FromTable_L1_B vals) (M_r32_FromTable_L1_E vals) r i v = some (v || r.any badV)
  | [], _, v => by rw [Rg, M_r32_FromTable_L1_E, List.any_nil, Bool.or_false]
  | y :: r, i, v => by
    rw [Rg, M_r32_FromTable_L1_B, ixv, List.any_cons, badV, rbad_loop vals r, rbad_loop vals r]
    cases v <;> cases decide (y < 0) <;> rfl
theorem bounded_eq (b : Int) : M_certify_bounded b = some (decide (-1 ≤ b ∧ b ≤ 1099511627776)) := by
  rw [M_certify_bounded, sel_dec]
  by_cases h : b ≥ -1
  · rw [if_pos h]; congr 1; rw [decide_eq_decide]; omega
  · rw [if_neg h, decide_eq_false (by omega)]
theorem checkF_code {t : GTask} {e : Int} (h : checkF t = .no e) : e ≠ 0 := by
  unfold checkF at h
  repeat' (split at h)
  all_goals first | (cases h; decide) | cases h
theorem checkF_vars {t : GTask} (h : checkF t = .nil) : t.Vars.length ≤ 64 ∧ ∀ k ∈ t.Vars, 1 ≤ k ∧ k ≤ 64 := by
  unfold checkF at h
  split at h
  · cases h
  · rename_i hl
    split at h
    · rename_i hv
      rw [List.all_eq_true] at hv
      exact ⟨(notlarge (Bool.eq_false_iff.2 hl)).1, fun k hk => of_decide_eq_true (hv k hk)⟩
    · cases h
theorem tab_eq (t : GTask) (ht : ShT t) (p vals : List Int) (b : Int) (hp : p.length ≤ 100) (hv : vals.length ≤ 600) :
    ∃ c e, M_certify_FromTable 100 t p vals b = some (c, e) ∧ M_r32_FromTable t p vals b = some (c, erN e) ∧ c.Nogoods.length ≤ 600 ∧ ∀ n ∈ c.Nogoods, n.1.length ≤ 200 := by
  rw [M_certify_FromTable, M_r32_FromTable, check_eq t ht, ref_check t ht, ob1_some, ob1_some]
  cases hck : checkF t with
  | no e =>
    have he := checkF_code hck
    rw [erN, show (e != 0) = true from by simpa using he, sel_tt]
    exact ⟨_, _, rfl, rfl, Nat.zero_le _, fun n hn => by cases hn⟩
  | nil =>
    have hvs := checkF_vars hck
    rw [erN, show ((0 : Int) != 0) = false from rfl, sel_ff, M_r32_right, M_r32_right_L1_eq t p (by omega)]
    have hr := right_loop (t := t) (p := p) p 0 (-1) (List.drop_zero ..) (by omega) (.inl ⟨rfl, rfl⟩) (by omega)
    have hq := pat_loop (p := p) hvs.2 p 0 1 (-1) (List.drop_zero ..) (by omega) (.inl ⟨rfl, rfl⟩) (by omega)
    rw [show ((0 : Nat) : Int) = 0 from rfl] at hr hq
    rw [show (min ((1 : Nat) : Int) 1125899906842624) = 1 from rfl, Nat.one_mul] at hq
    rw [hr, ob1_some]
    show ∃ c e, ob1 (M_certify_FromTable_L1 t p ((((p.map cI).length : Int)).toNat + 1) 1 0) _ = _ ∧ _
    rw [M_certify_FromTable_L1_eq t p 1 (by omega), hq, ob1_some]
    by_cases ha : ascR t.Vars.length (-1) p = true
    · rw [if_pos ha, ha, Bool.not_true, sel_ff, osum_inl]
      have hpm := ascR_mem (by omega) ha
      have hpl : p.length ≤ 64 := by have := ascR_len (by omega) (by omega) ha; omega
      have hks : ∀ k ∈ szs t.Vars p, 1 ≤ k ∧ k ≤ 64 := fun k hk => by
        obtain ⟨y, hy, rfl⟩ := List.mem_map.1 hk
        exact hvs.2 _ (getD_mem (hpm y hy).1 (hpm y hy).2)
      have hsl : (szs t.Vars p).length = p.length := List.length_map _
      have hmany := manyF_prod vals.length (szs t.Vars p) 1 hks (by omega) (by omega)
      rw [Nat.one_mul, show ((1 : Nat) : Int) = 1 from rfl] at hmany
      rw [sizes_eq hpm hpl, ob1_some, List.length_map, many_eq _ (by unfold Sh; omega) _ (by omega), ob1_some, hmany]
      by_cases hP : prodN (szs t.Vars p) = vals.length
      · rw [if_pos (by omega), hP, show (min ((vals.length : Nat) : Int) 1125899906842624 != ((vals.length : Nat) : Int)) = false from by rw [bne_eq_false_iff_eq]; omega, show (((vals.length : Nat) : Int) != ((vals.length : Nat) : Int)) = false from by rw [bne_eq_false_iff_eq], sel_ff, sel_ff, bounded_eq, ob1_some]
        have hbad : (sel (decide (b < (-1))) (some true) (some (decide (b > 1099511627776))) : Option Bool) = some (!decide (-1 ≤ b ∧ b ≤ 1099511627776)) := by
          rw [sel_dec]
          by_cases h : b < -1
          · rw [if_pos h, decide_eq_false (by omega)]; rfl
          · rw [if_neg h, ← decide_not]; congr 1; rw [decide_eq_decide]; omega
        have e1 := fun v => M_r32_FromTable_L1_eq vals v (by omega)
        simp only [List.length_map] at e1
        rw [hbad, ob1_some, e1, rbad_loop, ob1_some, containsI_eq (q := badV) (by unfold Sh; omega) (fun y => by rw [M_certify_FromTable_1, sel_dec, badV]; by_cases h : y < 0 <;> simp [h]), ob1_some]
        cases hb : decide (-1 ≤ b ∧ b ≤ 1099511627776) with
        | false => exact ⟨_, _, rfl, rfl, Nat.zero_le _, fun n hn => by cases hn⟩
        | true =>
          rw [Bool.not_true, sel_ff, Bool.false_or]
          cases hany : vals.any badV with
          | true => exact ⟨_, _, rfl, rfl, Nat.zero_le _, fun n hn => by cases hn⟩
          | false =>
            have htab := tab_loop (vals := vals) (b := b) hvs.2 hpm hpl vals 0 [] (by omega) (by simp)
            have hst : M_b_States (szs t.Vars p) = some (statesG (szs t.Vars p) [[]]) := by
              rw [M_b_States, M_b_States_L3_eq _ _ (by omega)]
              exact states3p _ _ 0 [[]] 0 hks (fun s hs => by rw [List.mem_singleton.1 hs]; exact Nat.le_refl _) (by omega) (by simp; omega)
            have hlen : (statesG (szs t.Vars p) [[]]).length = vals.length := by rw [statesG_len2, hP]; simp
            have hrt := rtab_loop (v := t.Vars) (p := p) (vals := vals) (b := b) (S := statesG (szs t.Vars p) [[]]) hpl (fun n s hs => by
              have := states_comb t.Vars p.reverse n s (fun y hy => (hvs.2 _ (getD_mem (hpm y (List.mem_reverse.1 hy)).1 (hpm y (List.mem_reverse.1 hy)).2)).1) (by rw [List.reverse_reverse]; exact hs)
              rw [List.reverse_reverse, List.length_reverse] at this
              exact this) hlen hv _ 0 [] (List.drop_zero ..) (by simp) (Nat.zero_le _)
            rw [show ((0 : Nat) : Int) = 0 from rfl, List.nil_append] at htab hrt
            rw [List.drop_zero] at hrt
            have hle := tabL_len t.Vars p b vals 0
            refine ⟨{ Bound := b, Nogoods := tabL t.Vars p b vals 0 }, .nil, ?_, ?_, by show (tabL t.Vars p b vals 0).length ≤ 600; omega, ?_⟩
            · have e2 := M_certify_FromTable_L2_eq t p vals b 100 [] (by omega)
              rw [List.length_map] at e2
              rw [sel_ff, ob1_some, osum_inl, e2]
              exact htab
            · rw [sel_ff, hst, ob1_some, M_r32_FromTable_L3_eq _ _ _ _ _ (by omega), hrt, ob1_some, sel_dec, if_neg (by omega), grd_t (by omega)]
              rfl
            · intro n hn
              have hall : ∀ (r : List Int) (i : Nat), ∀ n ∈ tabL t.Vars p b r i, n.1.length ≤ 200 := by
                intro r
                induction r with
                | nil => intro i n hn; cases hn
                | cons y r ih =>
                  intro i n hn
                  rw [tabL] at hn
                  split at hn
                  · exact ih _ n hn
                  · rcases List.mem_cons.1 hn with rfl | hn
                    · show (combF t.Vars p i).length ≤ 200
                      rw [combF, List.length_reverse, combR_len, List.length_reverse]; omega
                    · exact ih _ n hn
              exact hall vals 0 n hn
      · have h1 : ((if prodN (szs t.Vars p) ≤ vals.length then ((prodN (szs t.Vars p) : Nat) : Int) else (vals.length : Int) + 1) != (vals.length : Int)) = true := by
          rw [bne_iff_ne]
          split <;> omega
        rw [h1, sel_tt, show (min ((prodN (szs t.Vars p) : Nat) : Int) 1125899906842624 != ((vals.length : Nat) : Int)) = true from by rw [bne_iff_ne]; omega, sel_tt]
        exact ⟨_, _, rfl, rfl, Nat.zero_le _, fun n hn => by cases hn⟩
    · rw [if_neg ha, Bool.eq_false_iff.2 ha, Bool.not_false, sel_tt, osum_inr]
      exact ⟨_, _, rfl, rfl, Nat.zero_le _, fun n hn => by cases hn⟩
end Go.Proofs.YtohjegemooakpaaGreat.Am
/- Plain law: CertifyTables. -/
namespace Go.Proofs.YtohjegemooakpaaGreat.Am
open Go.RowKit
theorem bfacts_loop (a b : List Fact) : ∀ (r s : List Fact) (n : Nat), a.drop n = r → b.drop n = s → r.length = s.length → Rg (M_b_Facts_L1_B a b) (M_b_Facts_L1_E a b) r n () = some (decide (r = s))
  | [], [], n, _, _, _ => by rw [Rg, M_b_Facts_L1_E, decide_eq_true rfl]
  | [], _ :: _, n, _, _, h => by cases h
  | _ :: _, [], n, _, _, h => by cases h
  | x :: r, y :: s, n, h1, h2, hl => by
    obtain ⟨hy, hd, -⟩ := drop_cons h2
    have ih := bfacts_loop a b r s (n + 1) (drop_cons h1).2.1 hd (by simpa using hl)
    rw [Rg, M_b_Facts_L1_B, ixv, ix_at hy, fact_beq]
    by_cases e : x = y
    · rw [decide_eq_true e, Bool.not_true, sel_ff]
      refine Eq.trans ih ?_
      subst e; simp
    · rw [decide_eq_false e, Bool.not_false, sel_tt, decide_eq_false]
      intro h; exact e (List.cons.inj h).1
theorem bfacts_eq (a b : List Fact) (ha : Sh a) : M_b_Facts a b = some (decide (a = b)) := by
  rw [M_b_Facts, List.length_map, List.length_map, bne_len]
  by_cases h : a.length = b.length
  · rw [decide_eq_false (by simp [h]), sel_ff]
    have e := M_b_Facts_L1_eq a b ha.lt
    rw [List.length_map] at e
    rw [e]
    exact bfacts_loop a b a b 0 rfl rfl h
  · rw [decide_eq_true h, sel_tt, decide_eq_false]
    rintro rfl; exact h rfl
theorem same_refl (c : GCertificate) (hl : c.Nogoods.length ≤ 1000) (hn : ∀ n ∈ c.Nogoods, n.1.length ≤ 1000) : M_l30_Same c c = some true := by
  have key : ∀ (r : List Nogood) (n : Nat), c.Nogoods.drop n = r → n ≤ c.Nogoods.length → Rg (M_l30_Same_L1_B c c) (M_l30_Same_L1_E c c) r n () = some true := by
    intro r
    induction r with
    | nil => intro n _ _; rfl
    | cons y r ih =>
      intro n hd hle
      obtain ⟨hy, hd', hlt⟩ := drop_cons hd
      have h1 := ih (n + 1) hd' (by omega)
      rw [show ((n + 1 : Nat) : Int) = (n : Int) + 1 from rfl] at h1
      have hm := hn y (List.mem_of_getElem? hy)
      rw [Rg, M_l30_Same_L1_B, ixv]
      simp only [ix_at hy]
      rw [show (y.2 != y.2) = false from by rw [bne_eq_false_iff_eq], sel_ff, bfacts_eq y.1 y.1 (by unfold Sh; omega), ob1_some, decide_eq_true rfl, Bool.not_true, sel_ff]
      exact h1
  rw [M_l30_Same, show (c.Bound != c.Bound) = false from by rw [bne_eq_false_iff_eq], sel_ff, show ((((c.Nogoods.map cN).length : Nat) : Int) != (((c.Nogoods.map cN).length : Nat) : Int)) = false from by rw [bne_eq_false_iff_eq], sel_ff, ob1_some, osum_inl, M_l30_Same_L1_eq c c (by omega)]
  exact key c.Nogoods 0 (List.drop_zero ..) (Nat.zero_le _)
theorem tables_true (t : GTask) (ht : ShT t) (x : GTable) : M_l32_CertifyTables 100 t x = some true := by
  rw [M_l32_CertifyTables, awake100]
  simp only [ob1_some, sel_dec, List.length_map]
  split
  · rfl
  · split
    · rfl
    · split
      · rfl
      · split
        · rfl
        · rename_i h1 h2 h3 h4
          obtain ⟨c, e, e1, e2, e3, e4⟩ := tab_eq t ht x.Pattern x.Values x.Bound (by omega) (by omega)
          rw [Bool.not_true, sel_ff, ob1_some, osum_inl, e1, ob2_some, e2, ob2_some, num_eq, ob1_some, show (erN e == erN e) = true from by rw [beq_iff_eq], sel_tt, same_refl c (by omega) (fun n hn => by have := e4 n hn; omega), ob1_some]
end Go.Proofs.YtohjegemooakpaaGreat.Am
/- Opening arguments: slices of numbers, of facts, of nogoods, a certificate. -/
namespace Go.Proofs.YtohjegemooakpaaGreat
open Go.RowKit Go.ChangeShapes Go.WideShapes Go.Deep Go.Joins

def I64 (x : Int) : Prop := -9223372036854775808 ≤ x ∧ x ≤ 9223372036854775807
theorem I64.of {x : Int} (h : (Lit.int .i64 x).wf = true) : I64 x := by
  have := bounds_i64 h
  exact this

section
variable {H : Type} {enc : TypeId × Value → H} {P : Program} {w : World} {base : Nat} {spare : Nat → Bool} {held : Bool}

/-- within the form's reach -/
def Sized (P : Program) (t : TypeId) (d : DataW H) : Prop := ∀ n ∈ d.weights P t, n ≤ reachBytes
theorem sized_arg {ts : List TypeId} {ds : List (DataW H)} (h : (DataW.weightsEach P ts ds).all (· ≤ reachBytes) = true) {j : Nat} {t : TypeId} {d : DataW H} (ht : ts[j]? = some t) (hd : ds[j]? = some d) : Sized P t d :=
  fun n hn => of_decide_eq_true (List.all_eq_true.1 h n (DataW.weights_mem_each ht hd n hn))
theorem sized_field {t : TypeId} {fs : Array Field} {parts : List (DataW H)} (h : Sized P t (.agg parts)) (hu : P.underlying t = some (.struct fs)) {j : Nat} {f : Field} {d : DataW H} (hf : fs[j]? = some f) (hd : parts[j]? = some d) : Sized P f.type d :=
  fun n hn => h n (by
    simp only [DataW.weights, hu]
    exact DataW.weights_mem_each (j := j) (by simp [List.getElem?_map, hf]) hd n hn)
theorem weightsAll_mem {e : TypeId} : ∀ {l : List (DataW H)} {d : DataW H}, d ∈ l → ∀ n ∈ d.weights P e, n ∈ DataW.weightsAll P e l
  | x :: l, d, hd, n, hn => by
    simp only [DataW.weightsAll, List.mem_append]
    rcases List.mem_cons.1 hd with rfl | h
    · exact Or.inl hn
    · exact Or.inr (weightsAll_mem h n hn)
theorem sized_elem {t e : TypeId} {elems sp : List (DataW H)} (h : Sized P t (.slice elems sp)) (hu : P.underlying t = some (.slice e)) {d : DataW H} (hd : d ∈ elems) : Sized P e d :=
  fun n hn => h n (by
    simp only [DataW.weights, hu, List.mem_cons, List.mem_append]
    exact Or.inr (Or.inl (weightsAll_mem hd n hn)))
theorem sized_len {t e : TypeId} {elems sp : List (DataW H)} (h : Sized P t (.slice elems sp)) (hu : P.underlying t = some (.slice e)) : elems.length * P.bytesOf e ≤ 140737488355328 := by
  have h1 := h ((elems.length + sp.length) * P.bytesOf e) (by simp [DataW.weights, hu])
  have h2 : elems.length * P.bytesOf e ≤ (elems.length + sp.length) * P.bytesOf e := Nat.mul_le_mul_right _ (by omega)
  have h3 : reachBytes ≤ 140737488355328 := by decide
  omega

end

theorem spot_of_cell {w : World} {p : Addr} {v : Value} (h : w.cell? p = some v) : p.spot = none := by
  unfold World.cell? at h
  split at h
  · split at h
    · cases h
    · rename_i hs; simpa using hs
  · cases h
theorem addr_of_cell {w : World} {a : Addr} {k : Nat} {v : Value} (h0 : ∃ u, w.cell? (a.add 0) = some u) (h : w.cell? (a.add k) = some v) : a = ⟨a.block, a.off, none⟩ ∧ w.cell? ⟨a.block, a.off + k, none⟩ = some v := by
  obtain ⟨u, hu⟩ := h0
  have hs := spot_of_cell hu
  obtain ⟨b, off, sp⟩ := a
  simp [Addr.add] at hs
  subst hs
  refine ⟨rfl, ?_⟩
  rw [← h]
  congr 1
  unfold Addr.add
  split
  · subst k; rfl
  · rfl

theorem list_of {α : Type} (n : Nat) (R : Nat → α → Prop) (h : ∀ i, i < n → ∃ x, R i x) : ∃ l : List α, l.length = n ∧ ∀ k x, l[k]? = some x → R k x := by
  induction n with
  | zero => exact ⟨[], rfl, fun k x hx => by simp at hx⟩
  | succ n ih =>
    obtain ⟨l, hl, hr⟩ := ih (fun i hi => h i (by omega))
    obtain ⟨x, hx⟩ := h n (by omega)
    refine ⟨l ++ [x], by simp [hl], fun k y hy => ?_⟩
    by_cases hk : k < n
    · rw [List.getElem?_append_left (by omega)] at hy
      exact hr k y hy
    · rw [List.getElem?_append_right (by omega)] at hy
      have hk' : k - l.length = 0 := by
        have := (List.getElem?_eq_some_iff.1 hy).1
        simp at this
        omega
      rw [hk'] at hy
      simp at hy
      subst hy
      obtain rfl : k = n := by omega
      exact hx

variable {H : Type} {enc : TypeId × Value → H} {w : World} {base : Nat} {spare : Nat → Bool} {held : Bool}
end Go.Proofs.YtohjegemooakpaaGreat
