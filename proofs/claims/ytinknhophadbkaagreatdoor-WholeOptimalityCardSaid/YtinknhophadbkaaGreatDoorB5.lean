/- Texts of the proof, part 5 of 7. -/
import Derived.Test.YtinknhophadbkaaGreatDoorB4
import Derived.Test.YtinknhophadbkaaGreatDoorB3
import Derived.Test.YtinknhophadbkaaGreatDoorB2
set_option linter.unusedVariables false
set_option linter.unusedSectionVars false
set_option linter.unusedSimpArgs false
open List renaming getElem?_eq_getElem→gE_, length_map→lM_, length_append→lA_, mem_cons_of_mem→mC_, length_cons→lC_, mem_cons_self→mS_, mem_of_getElem?→mG_, getElem?_eq_some_iff→gS_, getD_eq_getElem?_getD→gD_, length_nil→lN_, mem_singleton→mI_, take_of_length_le→tL_
open Option.some renaming inj→sI_
open Bool renaming and_eq_true→bA_
open Option renaming bind_some→oB_
namespace Go.Proofs.YtinknhophadbkaaGreatDoor.Am
theorem bT1 {n m:Nat}(h:Nat.ble n m=true):n≤m:=Nat.le_of_ble_eq_true h
def M_task_conditions_L1_B (_:GOp)(_y65:GEffect)(_:Int):((List (List Fact)))→(((List (List Fact)))→Option (List (List Fact)))→Option (List (List Fact)):=fun v63 rc=>ixv _y65 (fun y65=>grd ((v63.length+1)*24≤140737488355328) (rc ((v63++[y65.When]))))
def M_task_conditions_L1_E (_:GOp):((List (List Fact)))→Option (List (List Fact)):=fun v63=>some v63
theorem M_task_conditions_L1_eq (y57:GOp)(v63:List (List Fact))(hl:y57.Effs.length<9223372036854775807):M_task_conditions_L1 y57 (((y57.Effs.map cGEffect).length:Int).toNat+1) 0 v63=Rg (M_task_conditions_L1_B y57) (M_task_conditions_L1_E y57) y57.Effs 0 v63:=rg_e1 (L:=fun k i v63=>M_task_conditions_L1 y57 k i v63) hl (fun _ _ _=>rfl) v63
def M_task_conditions_L2_B (_:GTask)(_y57:GOp)(_:Int):((List (List Fact)))→(((List (List Fact)))→Option (List (List Fact)))→Option (List (List Fact)):=fun v44 rc=>ob1 (ixv _y57 (fun y57=>grd ((v44.length+1)*24≤140737488355328) (M_task_conditions_L1 y57 ((((y57.Effs.map cGEffect).length:Int)).toNat+1) 0 (v44++[y57.Pre]))):Option (List (List Fact))) (fun v55=>rc (v55))
def M_task_conditions_L2_E (_:GTask):((List (List Fact)))→Option (List (List Fact)):=fun v44=>grd (v44.length≤140737488355328) (some v44)
theorem M_task_conditions_L2_eq (a0:GTask)(v44:List (List Fact))(hl:a0.Ops.length<9223372036854775807):M_task_conditions_L2 a0 (((a0.Ops.map cGOp).length:Int).toNat+1) 0 v44=Rg (M_task_conditions_L2_B a0) (M_task_conditions_L2_E a0) a0.Ops 0 v44:=rg_e2 (L:=fun k i v44=>M_task_conditions_L2 a0 k i v44) hl (fun k n p y hy h1 h2=>by first|(simp only[M_task_conditions_L2,M_task_conditions_L2_B,lM_,decide_lt h1,sel,ix_at hy,ixv,h2];done)|(simp only[lM_]at h1 hy;(simp only[M_task_conditions_L2,M_task_conditions_L2_B,lM_,decide_lt h1,sel,ix_at hy,ixv,h2];done))) (fun k p=>by simp only[M_task_conditions_L2,M_task_conditions_L2_E,lM_,decide_ge,sel]) v44
def M_s_IndexFunc_Fact_L1_B (_:List (List Fact))(a1:(List Fact)→Option Bool)(_y8:List Fact)(v6:Int):Unit→(Unit→Option (Int))→Option (Int):=fun _ rc=>ixv _y8 (fun y8=>ob1 (a1 y8) (fun z9=>sel z9 (some v6) (rc ())))
def M_s_IndexFunc_Fact_L1_E (_:List (List Fact))(_:(List Fact)→Option Bool):Unit→Option (Int):=fun _=>some (-1)
theorem M_s_IndexFunc_Fact_L1_eq (a0:List (List Fact))(a1:(List Fact)→Option Bool)  (hl:a0.length<9223372036854775807):M_s_IndexFunc_Fact_L1 a0 a1 (((a0.map cL_cF).length:Int).toNat+1) 0=Rg (M_s_IndexFunc_Fact_L1_B a0 a1) (M_s_IndexFunc_Fact_L1_E a0 a1) a0 0 ():=rg_e1 (L:=fun k i _=>M_s_IndexFunc_Fact_L1 a0 a1 k i) hl (fun _ _ _=>rfl) ()
def M_task_large_L1_B (_:GTask)(_y8:GOp)(_:Int):Unit→(Unit→Option (Bool))→Option (Bool):=fun _ rc=>ixv _y8 (fun y8=>sel (decide (((y8.Effs.map cGEffect).length:Int)>64)) (some true) (rc ()))
def M_task_large_L1_E (a0:GTask):Unit→Option (Bool):=fun _=>ob1 (M_task_conditions a0) (fun z9=>ob1 (M_s_ContainsFunc_Fact z9 M_task_large_1) (fun z10=>some z10))
theorem M_task_large_L1_eq (a0:GTask)  (hl:a0.Ops.length<9223372036854775807):M_task_large_L1 a0 (((a0.Ops.map cGOp).length:Int).toNat+1) 0=Rg (M_task_large_L1_B a0) (M_task_large_L1_E a0) a0.Ops 0 ():=rg_e1 (L:=fun k i _=>M_task_large_L1 a0 k i) hl (fun _ _ _=>rfl) ()
def M_task_Proper_L1_B (a0:List Int)(_:List Int)(_y8:Int)(v6:Int):Unit→(Unit→Option (Bool))→Option (Bool):=fun _ rc=>ixv _y8 (fun y8=>sel (decide (y8<0)) (some false) (ix a0 v6 (fun y9=>sel (decide (y8≥y9)) (some false) (rc ()))))
def M_task_Proper_L1_E (_:List Int)(_:List Int):Unit→Option (Bool):=fun _=>some true
theorem M_task_Proper_L1_eq (a0:List Int)(a1:List Int)  (hl:a1.length<9223372036854775807):M_task_Proper_L1 a0 a1 (((a1.map cI).length:Int).toNat+1) 0=Rg (M_task_Proper_L1_B a0 a1) (M_task_Proper_L1_E a0 a1) a1 0 ():=rg_e1 (L:=fun k i _=>M_task_Proper_L1 a0 a1 k i) hl (fun _ _ _=>rfl) ()
def M_task_Facts_L1_B (a0:List Int)(_:List Fact)(_y10:Fact)(_:Int):((Int))→(((Int))→Option (Bool))→Option (Bool):=fun v7 rc=>ixv _y10 (fun y10=>sel (decide (y10.1≤v7)) (some false) (sel (decide (y10.1≥((a0.map cI).length:Int))) (some false) (sel (decide (y10.2<0)) (some false) (ix a0 y10.1 (fun y11=>sel (decide (y10.2≥y11)) (some false) (rc (y10.1)))))))
def M_task_Facts_L1_E (_:List Int)(_:List Fact):((Int))→Option (Bool):=fun _=>some true
theorem M_task_Facts_L1_eq (a0:List Int)(a1:List Fact)(v7:Int)(hl:a1.length<9223372036854775807):M_task_Facts_L1 a0 a1 (((a1.map cF).length:Int).toNat+1) v7 0=Rg (M_task_Facts_L1_B a0 a1) (M_task_Facts_L1_E a0 a1) a1 0 v7:=rg_e1 (L:=fun k i v7=>M_task_Facts_L1 a0 a1 k v7 i) hl (fun _ _ _=>rfl) v7
def M_task_named_L1_B (a0:ByteArray)(v2:Int):Unit→(Unit→Option (Bool))→Option (Bool):=fun _ rc=>sel (decide ((byt a0 v2)<32)) (grd (0≤v2) (grd (v2<(a0.size:Int)) (some false))) (grd (0≤v2) (grd (v2<(a0.size:Int)) (sel (decide ((byt a0 v2)>126)) (some false) (rc ()))))
def M_task_named_L1_E (a0:ByteArray):Unit→Option (Bool):=fun _=>some (decide ((a0.size:Int)≤256))
theorem M_task_named_L1_eq (a0:ByteArray)  {m:Nat}(hm:(a0.size:Int)=(m:Int))(hl:m<9223372036854775807):M_task_named_L1 a0 (((a0.size:Int)).toNat+1) 0=Rn (M_task_named_L1_B a0) (M_task_named_L1_E a0) m 0 ():=rn_e (L:=fun k i _=>M_task_named_L1 a0 k i) hm hl (fun _ _ _=>rfl) ()
def M_task_Check_L1_B (_:GTask)(_y15:Int)(_:Int):Unit→(Unit→Option (Unit⊕Er))→Option (Unit⊕Er):=fun _ rc=>ixv _y15 (fun y15=>sel (decide (y15<1)) (some (.inr (Er.no 1))) (sel (decide (y15>64)) (some (.inr (Er.no 1))) (rc ())))
def M_task_Check_L1_E (_:GTask):Unit→Option (Unit⊕Er):=fun _=>some (.inl ())
theorem M_task_Check_L1_eq (a0:GTask)  (hl:a0.Vars.length<9223372036854775807):M_task_Check_L1 a0 (((a0.Vars.map cI).length:Int).toNat+1) 0=Rg (M_task_Check_L1_B a0) (M_task_Check_L1_E a0) a0.Vars 0 ():=rg_e1 (L:=fun k i _=>M_task_Check_L1 a0 k i) hl (fun _ _ _=>rfl) ()
def M_task_Check_L2_B (_:GTask)(_y29:GOp)(_:Int):Unit→(Unit→Option (Unit⊕Er))→Option (Unit⊕Er):=fun _ rc=>ixv _y29 (fun y29=>sel (decide (y29.Cost<0)) (some (.inr (Er.no 1))) (sel (decide (y29.Cost>1048576)) (some (.inr (Er.no 1))) (rc ())))
def M_task_Check_L2_E (_:GTask):Unit→Option (Unit⊕Er):=fun _=>some (.inl ())
theorem M_task_Check_L2_eq (a0:GTask)  (hl:a0.Ops.length<9223372036854775807):M_task_Check_L2 a0 (((a0.Ops.map cGOp).length:Int).toNat+1) 0=Rg (M_task_Check_L2_B a0) (M_task_Check_L2_E a0) a0.Ops 0 ():=rg_e1 (L:=fun k i _=>M_task_Check_L2 a0 k i) hl (fun _ _ _=>rfl) ()
def M_task_Check_L3_B (a0:GTask)(_:List (List Fact))(_y51:List Fact)(_:Int):Unit→(Unit→Option (Unit⊕Er))→Option (Unit⊕Er):=fun _ rc=>ixv _y51 (fun y51=>ob1 (M_task_Facts a0.Vars y51) (fun z52=>sel (!z52) (some (.inr (Er.no 2))) (rc ())))
def M_task_Check_L3_E (_:GTask)(_:List (List Fact)):Unit→Option (Unit⊕Er):=fun _=>some (.inl ())
theorem M_task_Check_L3_eq (a0:GTask)(z43:List (List Fact))  (hl:z43.length<9223372036854775807):M_task_Check_L3 a0 z43 (((z43.map cL_cF).length:Int).toNat+1) 0=Rg (M_task_Check_L3_B a0 z43) (M_task_Check_L3_E a0 z43) z43 0 ():=rg_e1 (L:=fun k i _=>M_task_Check_L3 a0 z43 k i) hl (fun _ _ _=>rfl) ()
def M_task_Check_L4_B (a0:GTask)(_:GOp)(_y191:GEffect)(_:Int):Unit→(Unit→Option (Unit⊕Er))→Option (Unit⊕Er):=fun _ rc=>ixv _y191 (fun y191=>ob1 (M_task_Facts a0.Vars [(y191.Var,y191.Val)]) (fun z192=>sel (!z192) (some (.inr (Er.no 2))) (rc ())))
def M_task_Check_L4_E (_:GTask)(_:GOp):Unit→Option (Unit⊕Er):=fun _=>some (.inl ())
theorem M_task_Check_L4_eq (a0:GTask)(y183:GOp)  (hl:y183.Effs.length<9223372036854775807):M_task_Check_L4 a0 y183 (((y183.Effs.map cGEffect).length:Int).toNat+1) 0=Rg (M_task_Check_L4_B a0 y183) (M_task_Check_L4_E a0 y183) y183.Effs 0 ():=rg_e1 (L:=fun k i _=>M_task_Check_L4 a0 y183 k i) hl (fun _ _ _=>rfl) ()
def M_task_Check_L5_B (a0:GTask)(_y183:GOp)(_:Int):Unit→(Unit→Option (Unit⊕Er))→Option (Unit⊕Er):=fun _ rc=>ob1 (ixv _y183 (fun y183=>M_task_Check_L4 a0 y183 ((((y183.Effs.map cGEffect).length:Int)).toNat+1) 0):Option (Unit⊕Er)) (osum (fun _=>rc ()) (fun r181=>some (.inr r181)))
def M_task_Check_L5_E (_:GTask):Unit→Option (Unit⊕Er):=fun _=>some (.inl ())
theorem M_task_Check_L5_eq (a0:GTask)  (hl:a0.Ops.length<9223372036854775807):M_task_Check_L5 a0 (((a0.Ops.map cGOp).length:Int).toNat+1) 0=Rg (M_task_Check_L5_B a0) (M_task_Check_L5_E a0) a0.Ops 0 ():=rg_e2 (L:=fun k i _=>M_task_Check_L5 a0 k i) hl (fun k n p y hy h1 h2=>by first|(simp only[M_task_Check_L5,M_task_Check_L5_B,lM_,decide_lt h1,sel,ix_at hy,ixv,h2];done)|(simp only[lM_]at h1 hy;(simp only[M_task_Check_L5,M_task_Check_L5_B,lM_,decide_lt h1,sel,ix_at hy,ixv,h2];done))) (fun k p=>by simp only[M_task_Check_L5,M_task_Check_L5_E,lM_,decide_ge,sel]) ()
def M_task_Check_L6_B (_:GTask)(_y200:GOp)(_:Int):Unit→(Unit→Option (Er))→Option (Er):=fun _ rc=>ixv _y200 (fun y200=>ob1 (M_task_named y200.Name) (fun z201=>sel (!z201) (some (Er.no 8)) (rc ())))
def M_task_Check_L6_E (_:GTask):Unit→Option (Er):=fun _=>some Er.nil
theorem M_task_Check_L6_eq (a0:GTask)  (hl:a0.Ops.length<9223372036854775807):M_task_Check_L6 a0 (((a0.Ops.map cGOp).length:Int).toNat+1) 0=Rg (M_task_Check_L6_B a0) (M_task_Check_L6_E a0) a0.Ops 0 ():=rg_e1 (L:=fun k i _=>M_task_Check_L6 a0 k i) hl (fun _ _ _=>rfl) ()
def M_g_silent_L1_B (y102:Fact)(_:Int)(v106:Int):((List (List Fact)))→(((List (List Fact)))→Option (List (List Fact)))→Option (List (List Fact)):=fun v107 rc=>sel (v106 != y102.2) (grd ((v107.length+1)*24≤140737488355328) (rc ((v107++[[(y102.1,v106)]])))) (rc (v107))
def M_g_silent_L1_E (_:Fact)(_:Int):((List (List Fact)))→Option (List (List Fact)):=fun v107=>some v107
theorem M_g_silent_L1_eq (y102:Fact)(y103:Int)(v107:List (List Fact)){m:Nat}(hm:y103=(m:Int))(hl:m<9223372036854775807):M_g_silent_L1 y102 y103 ((y103).toNat+1) 0 v107=Rn (M_g_silent_L1_B y102 y103) (M_g_silent_L1_E y102 y103) m 0 v107:=rn_e (L:=fun k i v107=>M_g_silent_L1 y102 y103 k i v107) hm hl (fun _ _ _=>rfl) v107
def M_g_silent_L2_B (a0:List Int)(_:GEffect)(_y102:Fact)(_:Int):((List (List Fact)))→(((List (List Fact)))→Option (List (List Fact)))→Option (List (List Fact)):=fun v91 rc=>ob1 (ixv _y102 (fun y102=>ix a0 y102.1 (fun y103=>M_g_silent_L1 y102 y103 ((y103).toNat+1) 0 v91)):Option (List (List Fact))) (fun v100=>rc (v100))
def M_g_silent_L2_E (_:List Int)(_:GEffect):((List (List Fact)))→Option (List (List Fact)):=fun v91=>some v91
theorem M_g_silent_L2_eq (a0:List Int)(a1:GEffect)(v91:List (List Fact))(hl:a1.When.length<9223372036854775807):M_g_silent_L2 a0 a1 (((a1.When.map cF).length:Int).toNat+1) 0 v91=Rg (M_g_silent_L2_B a0 a1) (M_g_silent_L2_E a0 a1) a1.When 0 v91:=rg_e2 (L:=fun k i v91=>M_g_silent_L2 a0 a1 k i v91) hl (fun k n p y hy h1 h2=>by first|(simp only[M_g_silent_L2,M_g_silent_L2_B,lM_,decide_lt h1,sel,ix_at hy,ixv,h2];done)|(simp only[lM_]at h1 hy;(simp only[M_g_silent_L2,M_g_silent_L2_B,lM_,decide_lt h1,sel,ix_at hy,ixv,h2];done))) (fun k p=>by simp only[M_g_silent_L2,M_g_silent_L2_E,lM_,decide_ge,sel]) v91
def M_p_valid_L1_B (a0:List Fact)(_y7:Fact)(v5:Int):Unit→(Unit→Option (Bool))→Option (Bool):=fun _ rc=>ixv _y7 (fun y7=>sel (decide (y7.1<0)) (some false) (sel (decide (y7.2<0)) (some false) (sel (decide (v5>0)) (ix a0 (IntKind.i64.wrap (v5-1)) (fun y8=>sel (decide (y8.1≥y7.1)) (some false) (rc ()))) (rc ()))))
def M_p_valid_L1_E (_:List Fact):Unit→Option (Bool):=fun _=>some true
theorem M_p_valid_L1_eq (a0:List Fact)  (hl:a0.length<9223372036854775807):M_p_valid_L1 a0 (((a0.map cF).length:Int).toNat+1) 0=Rg (M_p_valid_L1_B a0) (M_p_valid_L1_E a0) a0 0 ():=rg_e1 (L:=fun k i _=>M_p_valid_L1 a0 k i) hl (fun _ _ _=>rfl) ()
def M_p_Make_L1_B (_:List Fact)(_y15:Fact)(_:Int):Unit→(Unit→Option (Unit⊕((List Fact)×Er)))→Option (Unit⊕((List Fact)×Er)):=fun _ rc=>ixv _y15 (fun y15=>sel (decide (y15.1<0)) (some (.inr ([],(Er.no 1)))) (sel (decide (y15.2<0)) (some (.inr ([],(Er.no 1)))) (rc ())))
def M_p_Make_L1_E (_:List Fact):Unit→Option (Unit⊕((List Fact)×Er)):=fun _=>some (.inl ())
theorem M_p_Make_L1_eq (a0:List Fact)  (hl:a0.length<9223372036854775807):M_p_Make_L1 a0 (((a0.map cF).length:Int).toNat+1) 0=Rg (M_p_Make_L1_B a0) (M_p_Make_L1_E a0) a0 0 ():=rg_e1 (L:=fun k i _=>M_p_Make_L1 a0 k i) hl (fun _ _ _=>rfl) ()
def M_s_CompareFunc_Fact_L1_B (_:List Fact)(a1:List Fact)(a2:Fact→Fact→Option Int)(_y24:Fact)(v22:Int):Unit→(Unit→Option (Unit⊕Int))→Option (Unit⊕Int):=fun _ rc=>ixv _y24 (fun y24=>sel (decide (v22≥((a1.map cF).length:Int))) (some (.inr 1)) (ix a1 v22 (fun y25=>ob1 (a2 y24 y25) (fun z26=>sel (z26 != 0) (some (.inr z26)) (rc ())))))
def M_s_CompareFunc_Fact_L1_E (_:List Fact)(_:List Fact)(_:Fact→Fact→Option Int):Unit→Option (Unit⊕Int):=fun _=>some (.inl ())
theorem M_s_CompareFunc_Fact_L1_eq (a0:List Fact)(a1:List Fact)(a2:Fact→Fact→Option Int)  (hl:a0.length<9223372036854775807):M_s_CompareFunc_Fact_L1 a0 a1 a2 (((a0.map cF).length:Int).toNat+1) 0=Rg (M_s_CompareFunc_Fact_L1_B a0 a1 a2) (M_s_CompareFunc_Fact_L1_E a0 a1 a2) a0 0 ():=rg_e1 (L:=fun k i _=>M_s_CompareFunc_Fact_L1 a0 a1 a2 k i) hl (fun _ _ _=>rfl) ()
def M_cmp_Or_int_L1_B (_:List Int)(_y6:Int)(_:Int):Unit→(Unit→Option (Int))→Option (Int):=fun _ rc=>ixv _y6 (fun y6=>sel (y6 != 0) (some y6) (rc ()))
def M_cmp_Or_int_L1_E (_:List Int):Unit→Option (Int):=fun _=>some 0
theorem M_cmp_Or_int_L1_eq (a0:List Int)  (hl:a0.length<9223372036854775807):M_cmp_Or_int_L1 a0 (((a0.map cI).length:Int).toNat+1) 0=Rg (M_cmp_Or_int_L1_B a0) (M_cmp_Or_int_L1_E a0) a0 0 ():=rg_e1 (L:=fun k i _=>M_cmp_Or_int_L1 a0 k i) hl (fun _ _ _=>rfl) ()
def M_g_join_L1_B (_:List (List Fact))(g:Nat)(y153:List Fact)(_y173:List Fact)(_:Int):((List (List Fact))×(List (List Fact)))→(((List (List Fact))×(List (List Fact)))→Option (((List (List Fact))×(List (List Fact)))⊕((List (List Fact))×Er)))→Option (((List (List Fact))×(List (List Fact)))⊕((List (List Fact))×Er)):=fun(v170,v171) rc=>ixv _y173 (fun y173=>ob2 (M_p_Join y153 y173) (fun z174 z175=>sel (!z175) (rc (v170,v171)) (grd (v170.length≤140737488355328) (ob2 (M_s_BinarySearchFunc_Fact g v170 z174 M_g_compare) (fun z176 z177=>sel z177 (rc (v170,v171)) (sel (((v171.length:Nat):Int) == 1024) (some (.inr ([],(Er.no 5)))) (ob1 (M_insertL v170 z176 [z174]) (fun z178=>grd ((v171.length+1)*24≤140737488355328) (rc (z178,(v171++[z174])))))))))))
def M_g_join_L1_E (_:List (List Fact))(_:Nat)(_:List Fact):((List (List Fact))×(List (List Fact)))→Option (((List (List Fact))×(List (List Fact)))⊕((List (List Fact))×Er)):=fun(v170,v171)=>some (.inl (v170,v171))
theorem M_g_join_L1_eq (a1:List (List Fact))(g:Nat)(y153:List Fact)(v170:List (List Fact))(v171:List (List Fact))(hl:a1.length<9223372036854775807):M_g_join_L1 a1 g y153 (((a1.map cL_cF).length:Int).toNat+1) 0 v170 v171=Rg (M_g_join_L1_B a1 g y153) (M_g_join_L1_E a1 g y153) a1 0 (v170,v171):=rg_e1 (L:=fun k i p=>match p with|(v170,v171)=>M_g_join_L1 a1 g y153 k i v170 v171) hl (fun _ _ ⟨_,_⟩=>rfl) (v170,v171)
def M_g_join_L2_B (_:List (List Fact))(a1:List (List Fact))(g:Nat)(_y153:List Fact)(_:Int):((List (List Fact))×(List (List Fact)))→(((List (List Fact))×(List (List Fact)))→Option ((List (List Fact))×Er))→Option ((List (List Fact))×Er):=fun(v119,v120) rc=>ob1 (ixv _y153 (fun y153=>M_g_join_L1 a1 g y153 ((((a1.map cL_cF).length:Int)).toNat+1) 0 v119 v120):Option (((List (List Fact))×(List (List Fact)))⊕((List (List Fact))×Er))) (osum (fun(v148,v149)=>rc (v148,v149)) (fun(r150,r151)=>some (r150,r151)))
def M_g_join_L2_E (_:List (List Fact))(_:List (List Fact))(_:Nat):((List (List Fact))×(List (List Fact)))→Option ((List (List Fact))×Er):=fun(_,v120)=>grd (v120.length≤140737488355328) (some (v120,Er.nil))
theorem M_g_join_L2_eq (a0:List (List Fact))(a1:List (List Fact))(g:Nat)(v119:List (List Fact))(v120:List (List Fact))(hl:a0.length<9223372036854775807):M_g_join_L2 a0 a1 g (((a0.map cL_cF).length:Int).toNat+1) 0 v119 v120=Rg (M_g_join_L2_B a0 a1 g) (M_g_join_L2_E a0 a1 g) a0 0 (v119,v120):=rg_e2 (L:=fun k i p=>match p with|(v119,v120)=>M_g_join_L2 a0 a1 g k i v119 v120) hl (fun k n p y hy h1 h2=>by first|(simp only[M_g_join_L2,M_g_join_L2_B,lM_,decide_lt h1,sel,ix_at hy,ixv,h2];done)|(simp only[lM_]at h1 hy;(simp only[M_g_join_L2,M_g_join_L2_B,lM_,decide_lt h1,sel,ix_at hy,ixv,h2];done))) (fun k p=>by simp only[M_g_join_L2,M_g_join_L2_E,lM_,decide_ge,sel]) (v119,v120)
def M_g_cases_L1_B (_:GOp)(a2:Fact)(_y18:GEffect)(_:Int):((List GEffect))→(((List GEffect))→Option (List GEffect))→Option (List GEffect):=fun v16 rc=>ixv _y18 (fun y18=>sel (y18.Var == a2.1) (grd ((v16.length+1)*40≤140737488355328) (rc ((v16++[y18])))) (rc (v16)))
def M_g_cases_L1_E (_:GOp)(_:Fact):((List GEffect))→Option (List GEffect):=fun v16=>some v16
theorem M_g_cases_L1_eq (a1:GOp)(a2:Fact)(v16:List GEffect)(hl:a1.Effs.length<9223372036854775807):M_g_cases_L1 a1 a2 (((a1.Effs.map cGEffect).length:Int).toNat+1) 0 v16=Rg (M_g_cases_L1_B a1 a2) (M_g_cases_L1_E a1 a2) a1.Effs 0 v16:=rg_e1 (L:=fun k i v16=>M_g_cases_L1 a1 a2 k i v16) hl (fun _ _ _=>rfl) v16
def M_g_cases_L2_B (a0:List Int)(a2:Fact)(g:Nat)(v9:List GEffect)(v780:Int)(v913:Int):((List (List Fact)))→(((List (List Fact)))→Option ((List (List Fact))⊕((List (List Fact))×Er)))→Option ((List (List Fact))⊕((List (List Fact))×Er)):=fun v912 rc=>ixn v9 ((IntKind.i64.wrap (v780+1)).toNat+(v913).toNat) (fun y915=>grd (0≤v913) (grd (v913<((v9.length-(IntKind.i64.wrap (v780+1)).toNat:Nat):Int)) (sel (y915.Val == a2.2) (rc (v912)) (ob2 (M_g_silent a0 y915) (fun z916 z917=>erM z917 (ob2 (M_g_join g v912 z916) (fun z919 z920=>erM z920 (rc (z919)) (fun e921=>some (.inr ([],(Er.no e921)))))) (fun e918=>some (.inr ([],(Er.no e918)))))))))
def M_g_cases_L2_E (_:List Int)(_:Fact)(_:Nat)(_:List GEffect)(_:Int):((List (List Fact)))→Option ((List (List Fact))⊕((List (List Fact))×Er)):=fun v912=>some (.inl v912)
theorem M_g_cases_L2_eq (a0:List Int)(a2:Fact)(g:Nat)(v9:List GEffect)(v780:Int)(v912:List (List Fact)){m:Nat}(hm:((v9.length-(IntKind.i64.wrap (v780+1)).toNat:Nat):Int)=(m:Int))(hl:m<9223372036854775807):M_g_cases_L2 a0 a2 g v9 v780 ((((v9.length-(IntKind.i64.wrap (v780+1)).toNat:Nat):Int)).toNat+1) v912 0=Rn (M_g_cases_L2_B a0 a2 g v9 v780) (M_g_cases_L2_E a0 a2 g v9 v780) m 0 v912:=rn_e (L:=fun k i v912=>M_g_cases_L2 a0 a2 g v9 v780 k v912 i) hm hl (fun _ _ _=>rfl) v912
def M_g_cases_L3_B (_:List (List Fact))(_y931:List Fact)(_:Int):((List (List Fact)))→(((List (List Fact)))→Option ((List (List Fact))⊕((List (List Fact))×Er)))→Option ((List (List Fact))⊕((List (List Fact))×Er)):=fun v929 rc=>ixv _y931 (fun y931=>grd (v929.length≤140737488355328) (ob1 (M_s_ContainsFunc_Fact v929 (M_g_cases_1 y931)) (fun z932=>sel (!z932) (grd ((v929.length+1)*24≤140737488355328) (rc ((v929++[y931])))) (rc (v929)))))
def M_g_cases_L3_E (_:List (List Fact)):((List (List Fact)))→Option ((List (List Fact))⊕((List (List Fact))×Er)):=fun v929=>some (.inl v929)
theorem M_g_cases_L3_eq (v892:List (List Fact))(v929:List (List Fact))(hl:v892.length<9223372036854775807):M_g_cases_L3 v892 (((v892.map cL_cF).length:Int).toNat+1) 0 v929=Rg (M_g_cases_L3_B v892) (M_g_cases_L3_E v892) v892 0 v929:=rg_e1 (L:=fun k i v929=>M_g_cases_L3 v892 k i v929) hl (fun _ _ _=>rfl) v929
def M_g_preimage_L1_B (a0:GTask)(_:List Fact)(g:Nat)(y7:GOp)(_y47:Fact)(v44:Int):((List (List (List Fact))))→(((List (List (List Fact))))→Option ((List (List (List Fact)))⊕((List (List Fact))×Er)))→Option ((List (List (List Fact)))⊕((List (List Fact))×Er)):=fun v45 rc=>ixv _y47 (fun y47=>ob2 (M_g_cases g a0.Vars y7 y47) (fun z48 z49=>erM z49 (ixn v45 ((v44).toNat) (fun _=>grd (v44<((v45.length:Nat):Int)) (rc ((v45.set ((v44).toNat) z48))))) (fun e50=>some (.inr ([],(Er.no e50))))))
def M_g_preimage_L1_E (_:GTask)(_:List Fact)(_:Nat)(_:GOp):((List (List (List Fact))))→Option ((List (List (List Fact)))⊕((List (List Fact))×Er)):=fun v45=>some (.inl v45)
theorem M_g_preimage_L1_eq (a0:GTask)(a2:List Fact)(g:Nat)(y7:GOp)(v45:List (List (List Fact)))(hl:a2.length<9223372036854775807):M_g_preimage_L1 a0 a2 g y7 (((a2.map cF).length:Int).toNat+1) 0 v45=Rg (M_g_preimage_L1_B a0 a2 g y7) (M_g_preimage_L1_E a0 a2 g y7) a2 0 v45:=rg_e1 (L:=fun k i v45=>M_g_preimage_L1 a0 a2 g y7 k i v45) hl (fun _ _ _=>rfl) v45
def M_g_preimage_L2_B (g:Nat)(v28:List (List (List Fact)))(v64:Int):((List (List Fact)))→(((List (List Fact)))→Option ((List (List Fact))×Er))→Option ((List (List Fact))×Er):=fun v63 rc=>ixn v28 ((v64).toNat) (fun y66=>grd (0≤v64) (grd (v64<((v28.length:Nat):Int)) (ob2 (M_g_join g v63 y66) (fun z67 z68=>erM z68 (rc (z67)) (fun e69=>some ([],(Er.no e69)))))))
def M_g_preimage_L2_E (_:Nat)(_:List (List (List Fact))):((List (List Fact)))→Option ((List (List Fact))×Er):=fun v63=>some (v63,Er.nil)
theorem M_g_preimage_L2_eq (g:Nat)(v28:List (List (List Fact)))(v63:List (List Fact)){m:Nat}(hm:((v28.length:Nat):Int)=(m:Int))(hl:m<9223372036854775807):M_g_preimage_L2 g v28 ((((v28.length:Nat):Int)).toNat+1) v63 0=Rn (M_g_preimage_L2_B g v28) (M_g_preimage_L2_E g v28) m 0 v63:=rn_e (L:=fun k i v63=>M_g_preimage_L2 g v28 k v63 i) hm hl (fun _ _ _=>rfl) v63
def M_p_find_L1_B (_:List Fact)(a1:Int)(_y6:Fact)(_:Int):Unit→(Unit→Option (Int))→Option (Int):=fun _ rc=>ixv _y6 (fun y6=>sel (y6.1 == a1) (some y6.2) (rc ()))
def M_p_find_L1_E (_:List Fact)(_:Int):Unit→Option (Int):=fun _=>some (-1)
theorem M_p_find_L1_eq (a0:List Fact)(a1:Int)  (hl:a0.length<9223372036854775807):M_p_find_L1 a0 a1 (((a0.map cF).length:Int).toNat+1) 0=Rg (M_p_find_L1_B a0 a1) (M_p_find_L1_E a0 a1) a0 0 ():=rg_e1 (L:=fun k i _=>M_p_find_L1 a0 a1 k i) hl (fun _ _ _=>rfl) ()
def M_p_contains_L1_B (a0:List Fact)(_:List Fact)(_y8:Fact)(_:Int):Unit→(Unit→Option (Bool))→Option (Bool):=fun _ rc=>ixv _y8 (fun y8=>ob1 (M_p_find a0 y8.1) (fun z9=>sel (z9 != y8.2) (some false) (rc ())))
def M_p_contains_L1_E (_:List Fact)(_:List Fact):Unit→Option (Bool):=fun _=>some true
theorem M_p_contains_L1_eq (a0:List Fact)(a1:List Fact)  (hl:a1.length<9223372036854775807):M_p_contains_L1 a0 a1 (((a1.map cF).length:Int).toNat+1) 0=Rg (M_p_contains_L1_B a0 a1) (M_p_contains_L1_E a0 a1) a1 0 ():=rg_e1 (L:=fun k i _=>M_p_contains_L1 a0 a1 k i) hl (fun _ _ _=>rfl) ()
def M_p_Minimal_L1_B (_:List (List Fact))(v115:Int)(y149:List Fact)(_y174:List Fact)(v172:Int):Unit→(Unit→Option (Bool))→Option (Bool):=fun _ rc=>ixv _y174 (fun y174=>sel (v115 != v172) (ob1 (M_p_valid y174) (fun z175=>sel z175 (ob1 (M_p_contains y149 y174) (fun z176=>sel z176 (sel (decide (((y174.map cF).length:Int)<((y149.map cF).length:Int))) (some false) (sel (decide (v172<v115)) (some false) (rc ()))) (rc ()))) (rc ()))) (rc ()))
def M_p_Minimal_L1_E (_:List (List Fact))(_:Int)(_:List Fact):Unit→Option (Bool):=fun _=>some true
theorem M_p_Minimal_L1_eq (a0:List (List Fact))(v115:Int)(y149:List Fact)  (hl:a0.length<9223372036854775807):M_p_Minimal_L1 a0 v115 y149 (((a0.map cL_cF).length:Int).toNat+1) 0=Rg (M_p_Minimal_L1_B a0 v115 y149) (M_p_Minimal_L1_E a0 v115 y149) a0 0 ():=rg_e1 (L:=fun k i _=>M_p_Minimal_L1 a0 v115 y149 k i) hl (fun _ _ _=>rfl) ()
def M_p_Minimal_L2_B (a0:List (List Fact))(_y149:List Fact)(v115:Int):((List (List Fact)))→(((List (List Fact)))→Option (List (List Fact)))→Option (List (List Fact)):=fun v116 rc=>ob1 (ixv _y149 (fun y149=>ob1 (M_p_valid y149) (fun z150=>sel (!z150) (some v116) (ob1 (M_p_Minimal_L1 a0 v115 y149 ((((a0.map cL_cF).length:Int)).toNat+1) 0:Option (Bool)) (fun v163=>sel v163 (ob1 (M_cloneF y149) (fun z177=>grd ((v116.length+1)*24≤140737488355328) (grd (z177.length≤140737488355328) (some (v116++[z177]))))) (some v116))))):Option (List (List Fact))) (fun v147=>rc (v147))
def M_p_Minimal_L2_E (_:List (List Fact)):((List (List Fact)))→Option (List (List Fact)):=fun v116=>some v116
theorem M_p_Minimal_L2_eq (a0:List (List Fact))(v116:List (List Fact))(hl:a0.length<9223372036854775807):M_p_Minimal_L2 a0 (((a0.map cL_cF).length:Int).toNat+1) 0 v116=Rg (M_p_Minimal_L2_B a0) (M_p_Minimal_L2_E a0) a0 0 v116:=rg_e2 (L:=fun k i v116=>M_p_Minimal_L2 a0 k i v116) hl (fun k n p y hy h1 h2=>by first|(simp only[M_p_Minimal_L2,M_p_Minimal_L2_B,lM_,decide_lt h1,sel,ix_at hy,ixv,h2];done)|(simp only[lM_]at h1 hy;(simp only[M_p_Minimal_L2,M_p_Minimal_L2_B,lM_,decide_lt h1,sel,ix_at hy,ixv,h2];done))) (fun k p=>by simp only[M_p_Minimal_L2,M_p_Minimal_L2_E,lM_,decide_ge,sel]) v116
def M_g_Regress_L1_B (_:List (List Fact))(v14:Int):((List (List Fact)))→(((List (List Fact)))→Option ((List (List Fact))×Er))→Option ((List (List Fact))×Er):=fun v15 rc=>ixn v15 ((v14).toNat) (fun y17=>ob1 (M_cloneF y17) (fun z18=>ixn v15 ((v14).toNat) (fun _=>grd (0≤v14) (grd (v14<((v15.length:Nat):Int)) (grd (z18.length≤140737488355328) (rc ((v15.set ((v14).toNat) z18))))))))
def M_g_Regress_L1_E (_:List (List Fact)):((List (List Fact)))→Option ((List (List Fact))×Er):=fun v15=>grd (v15.length≤140737488355328) (some (v15,Er.nil))
theorem M_g_Regress_L1_eq (z4:List (List Fact))(v15:List (List Fact)){m:Nat}(hm:((z4.length:Nat):Int)=(m:Int))(hl:m<9223372036854775807):M_g_Regress_L1 z4 ((((z4.length:Nat):Int)).toNat+1) 0 v15=Rn (M_g_Regress_L1_B z4) (M_g_Regress_L1_E z4) m 0 v15:=rn_e (L:=fun k i v15=>M_g_Regress_L1 z4 k i v15) hm hl (fun _ _ _=>rfl) v15
def M_b_State_L1_B (a0:List Int)(a1:List Int)(_y10:Int)(v8:Int):Unit→(Unit→Option (Bool))→Option (Bool):=fun _ rc=>ixv _y10 (fun y10=>sel (decide (y10<0)) (some false) (ix a1 v8 (fun y11=>ix a0 v8 (fun y12=>sel (decide (y11≥y12)) (some false) (rc ())))))
def M_b_State_L1_E (_:List Int)(_:List Int):Unit→Option (Bool):=fun _=>some true
theorem M_b_State_L1_eq (a0:List Int)(a1:List Int)  (hl:a1.length<9223372036854775807):M_b_State_L1 a0 a1 (((a1.map cI).length:Int).toNat+1) 0=Rg (M_b_State_L1_B a0 a1) (M_b_State_L1_E a0 a1) a1 0 ():=rg_e1 (L:=fun k i _=>M_b_State_L1 a0 a1 k i) hl (fun _ _ _=>rfl) ()
def M_b_Proper_L1_B (a0:List Int)(a1:List Fact)(_y9:Fact)(v7:Int):Unit→(Unit→Option (Bool))→Option (Bool):=fun _ rc=>ixv _y9 (fun y9=>sel (decide (y9.1<0)) (some false) (sel (decide (y9.1≥((a0.map cI).length:Int))) (some false) (sel (decide (y9.2<0)) (some false) (ix a0 y9.1 (fun y10=>sel (decide (y9.2≥y10)) (some false) (sel (decide (v7>0)) (ix a1 (IntKind.i64.wrap (v7-1)) (fun y11=>sel (decide (y11.1≥y9.1)) (some false) (rc ()))) (rc ())))))))
def M_b_Proper_L1_E (_:List Int)(_:List Fact):Unit→Option (Bool):=fun _=>some true
theorem M_b_Proper_L1_eq (a0:List Int)(a1:List Fact)  (hl:a1.length<9223372036854775807):M_b_Proper_L1 a0 a1 (((a1.map cF).length:Int).toNat+1) 0=Rg (M_b_Proper_L1_B a0 a1) (M_b_Proper_L1_E a0 a1) a1 0 ():=rg_e1 (L:=fun k i _=>M_b_Proper_L1 a0 a1 k i) hl (fun _ _ _=>rfl) ()
def M_b_operator_L1_B (a1:GOp)(v11:Int):Unit→(Unit→Option (Unit⊕Bool))→Option (Unit⊕Bool):=fun _ rc=>sel (decide ((byt a1.Name v11)<32)) (grd (0≤v11) (grd (v11<(a1.Name.size:Int)) (some (.inr false)))) (grd (0≤v11) (grd (v11<(a1.Name.size:Int)) (sel (decide ((byt a1.Name v11)>126)) (some (.inr false)) (rc ()))))
def M_b_operator_L1_E (_:GOp):Unit→Option (Unit⊕Bool):=fun _=>some (.inl ())
theorem M_b_operator_L1_eq (a1:GOp)  {m:Nat}(hm:(a1.Name.size:Int)=(m:Int))(hl:m<9223372036854775807):M_b_operator_L1 a1 (((a1.Name.size:Int)).toNat+1) 0=Rn (M_b_operator_L1_B a1) (M_b_operator_L1_E a1) m 0 ():=rn_e (L:=fun k i _=>M_b_operator_L1 a1 k i) hm hl (fun _ _ _=>rfl) ()
def M_b_operator_L2_B (a0:List Int)(_:GOp)(_y22:GEffect)(_:Int):Unit→(Unit→Option (Bool))→Option (Bool):=fun _ rc=>ixv _y22 (fun y22=>ob1 (M_b_Proper a0 y22.When) (fun z23=>sel (!z23) (some false) (ob1 (M_b_Proper a0 [(y22.Var,y22.Val)]) (fun z24=>sel (!z24) (some false) (rc ())))))
def M_b_operator_L2_E (_:List Int)(_:GOp):Unit→Option (Bool):=fun _=>some true
theorem M_b_operator_L2_eq (a0:List Int)(a1:GOp)  (hl:a1.Effs.length<9223372036854775807):M_b_operator_L2 a0 a1 (((a1.Effs.map cGEffect).length:Int).toNat+1) 0=Rg (M_b_operator_L2_B a0 a1) (M_b_operator_L2_E a0 a1) a1.Effs 0 ():=rg_e1 (L:=fun k i _=>M_b_operator_L2 a0 a1 k i) hl (fun _ _ _=>rfl) ()
def M_b_Good_L1_B (_:GTask)(_y16:Int)(_:Int):Unit→(Unit→Option (Unit⊕Bool))→Option (Unit⊕Bool):=fun _ rc=>ixv _y16 (fun y16=>sel (decide (y16<1)) (some (.inr false)) (sel (decide (y16>64)) (some (.inr false)) (rc ())))
def M_b_Good_L1_E (_:GTask):Unit→Option (Unit⊕Bool):=fun _=>some (.inl ())
theorem M_b_Good_L1_eq (a0:GTask)  (hl:a0.Vars.length<9223372036854775807):M_b_Good_L1 a0 (((a0.Vars.map cI).length:Int).toNat+1) 0=Rg (M_b_Good_L1_B a0) (M_b_Good_L1_E a0) a0.Vars 0 ():=rg_e1 (L:=fun k i _=>M_b_Good_L1 a0 k i) hl (fun _ _ _=>rfl) ()
def M_b_Good_L2_B (a0:GTask)(_y30:GOp)(_:Int):Unit→(Unit→Option (Bool))→Option (Bool):=fun _ rc=>ixv _y30 (fun y30=>ob1 (M_b_operator a0.Vars y30) (fun z31=>sel (!z31) (some false) (rc ())))
def M_b_Good_L2_E (_:GTask):Unit→Option (Bool):=fun _=>some true
theorem M_b_Good_L2_eq (a0:GTask)  (hl:a0.Ops.length<9223372036854775807):M_b_Good_L2 a0 (((a0.Ops.map cGOp).length:Int).toNat+1) 0=Rg (M_b_Good_L2_B a0) (M_b_Good_L2_E a0) a0.Ops 0 ():=rg_e1 (L:=fun k i _=>M_b_Good_L2 a0 k i) hl (fun _ _ _=>rfl) ()
def M_b_Many_L1_B (_:List Int)(a1:Int)(_y8:Int)(_:Int):((Int))→(((Int))→Option (Int))→Option (Int):=fun v5 rc=>ixv _y8 (fun y8=>sel (decide ((IntKind.i64.wrap (v5*(min (max y8 0) (IntKind.i64.wrap (a1+1)))))>a1)) (some (IntKind.i64.wrap (a1+1))) (rc ((IntKind.i64.wrap (v5*(min (max y8 0) (IntKind.i64.wrap (a1+1))))))))
def M_b_Many_L1_E (_:List Int)(_:Int):((Int))→Option (Int):=fun v5=>some v5
theorem M_b_Many_L1_eq (a0:List Int)(a1:Int)(v5:Int)(hl:a0.length<9223372036854775807):M_b_Many_L1 a0 a1 (((a0.map cI).length:Int).toNat+1) v5 0=Rg (M_b_Many_L1_B a0 a1) (M_b_Many_L1_E a0 a1) a0 0 v5:=rg_e1 (L:=fun k i v5=>M_b_Many_L1 a0 a1 k v5 i) hl (fun _ _ _=>rfl) v5
def M_b_Small_L1_B (_:GTask)(_y16:GOp)(_:Int):Unit→(Unit→Option (Unit⊕Bool))→Option (Unit⊕Bool):=fun _ rc=>ixv _y16 (fun y16=>sel (decide (((y16.Effs.map cGEffect).length:Int)>8)) (some (.inr false)) (rc ()))
def M_b_Small_L1_E (_:GTask):Unit→Option (Unit⊕Bool):=fun _=>some (.inl ())
theorem M_b_Small_L1_eq (a0:GTask)  (hl:a0.Ops.length<9223372036854775807):M_b_Small_L1 a0 (((a0.Ops.map cGOp).length:Int).toNat+1) 0=Rg (M_b_Small_L1_B a0) (M_b_Small_L1_E a0) a0.Ops 0 ():=rg_e1 (L:=fun k i _=>M_b_Small_L1 a0 k i) hl (fun _ _ _=>rfl) ()
def M_b_Tame_L1_B (_:GTask)(_y15:Int)(_:Int):Unit→(Unit→Option (Unit⊕Bool))→Option (Unit⊕Bool):=fun _ rc=>ixv _y15 (fun y15=>sel (decide (y15<2)) (some (.inr false)) (sel (decide (y15>4)) (some (.inr false)) (rc ())))
def M_b_Tame_L1_E (_:GTask):Unit→Option (Unit⊕Bool):=fun _=>some (.inl ())
theorem M_b_Tame_L1_eq (a0:GTask)  (hl:a0.Vars.length<9223372036854775807):M_b_Tame_L1 a0 (((a0.Vars.map cI).length:Int).toNat+1) 0=Rg (M_b_Tame_L1_B a0) (M_b_Tame_L1_E a0) a0.Vars 0 ():=rg_e1 (L:=fun k i _=>M_b_Tame_L1 a0 k i) hl (fun _ _ _=>rfl) ()
def M_b_Tame_L2_B (_:GOp)(_y144:GEffect)(_:Int):((Int))→(((Int))→Option (Int⊕Bool))→Option (Int⊕Bool):=fun v141 rc=>ixv _y144 (fun y144=>sel (decide (((y144.When.map cF).length:Int)>2)) (some (.inr false)) (sel (decide (((y144.When.map cF).length:Int)>0)) (rc ((IntKind.i64.wrap (v141+1)))) (rc (v141))))
def M_b_Tame_L2_E (_:GOp):((Int))→Option (Int⊕Bool):=fun v141=>some (.inl v141)
theorem M_b_Tame_L2_eq (y125:GOp)(v141:Int)(hl:y125.Effs.length<9223372036854775807):M_b_Tame_L2 y125 (((y125.Effs.map cGEffect).length:Int).toNat+1) v141 0=Rg (M_b_Tame_L2_B y125) (M_b_Tame_L2_E y125) y125.Effs 0 v141:=rg_e1 (L:=fun k i v141=>M_b_Tame_L2 y125 k v141 i) hl (fun _ _ _=>rfl) v141
def M_b_Tame_L3_B (_:GTask)(_y125:GOp)(_:Int):Unit→(Unit→Option (Bool))→Option (Bool):=fun _ rc=>ob1 (ixv _y125 (fun y125=>ob1 (M_b_Tame_L2 y125 ((((y125.Effs.map cGEffect).length:Int)).toNat+1) 0 0:Option (Int⊕Bool)) (osum (fun v134=>sel (decide (v134>3)) (some (.inr false)) (some (.inl ()))) (fun r135=>some (.inr r135)))):Option (Unit⊕Bool)) (osum (fun _=>rc ()) (fun r123=>some r123))
def M_b_Tame_L3_E (_:GTask):Unit→Option (Bool):=fun _=>some true
theorem M_b_Tame_L3_eq (a0:GTask)  (hl:a0.Ops.length<9223372036854775807):M_b_Tame_L3 a0 (((a0.Ops.map cGOp).length:Int).toNat+1) 0=Rg (M_b_Tame_L3_B a0) (M_b_Tame_L3_E a0) a0.Ops 0 ():=rg_e2 (L:=fun k i _=>M_b_Tame_L3 a0 k i) hl (fun k n p y hy h1 h2=>by first|(simp only[M_b_Tame_L3,M_b_Tame_L3_B,lM_,decide_lt h1,sel,ix_at hy,ixv,h2];done)|(simp only[lM_]at h1 hy;(simp only[M_b_Tame_L3,M_b_Tame_L3_B,lM_,decide_lt h1,sel,ix_at hy,ixv,h2];done))) (fun k p=>by simp only[M_b_Tame_L3,M_b_Tame_L3_E,lM_,decide_ge,sel]) ()
def M_task_Holds_L1_B (_:List Fact)(a1:List Int)(_y8:Fact)(_:Int):Unit→(Unit→Option (Bool))→Option (Bool):=fun _ rc=>ixv _y8 (fun y8=>sel (decide (y8.1<0)) (some false) (sel (decide (y8.1≥((a1.map cI).length:Int))) (some false) (ix a1 y8.1 (fun y9=>sel (y9 != y8.2) (some false) (rc ())))))
def M_task_Holds_L1_E (_:List Fact)(_:List Int):Unit→Option (Bool):=fun _=>some true
theorem M_task_Holds_L1_eq (a0:List Fact)(a1:List Int)  (hl:a0.length<9223372036854775807):M_task_Holds_L1 a0 a1 (((a0.map cF).length:Int).toNat+1) 0=Rg (M_task_Holds_L1_B a0 a1) (M_task_Holds_L1_E a0 a1) a0 0 ():=rg_e1 (L:=fun k i _=>M_task_Holds_L1 a0 a1 k i) hl (fun _ _ _=>rfl) ()
def M_b_States_L1_B (_:Int)(y294:List Int)(v297:Int):((List (List Int)))→(((List (List Int)))→Option (List (List Int)))→Option (List (List Int)):=fun v298 rc=>grd ((0+y294.length)*8≤140737488355328) (grd ((y294.length+1)*8≤140737488355328) (grd ((v298.length+1)*24≤140737488355328) (grd (y294.length+1≤140737488355328) (rc ((v298++[(y294++[v297])]))))))
def M_b_States_L1_E (_:Int)(_:List Int):((List (List Int)))→Option (List (List Int)):=fun v298=>some v298
theorem M_b_States_L1_eq (y252:Int)(y294:List Int)(v298:List (List Int)){m:Nat}(hm:y252=(m:Int))(hl:m<9223372036854775807):M_b_States_L1 y252 y294 ((y252).toNat+1) 0 v298=Rn (M_b_States_L1_B y252 y294) (M_b_States_L1_E y252 y294) m 0 v298:=rn_e (L:=fun k i v298=>M_b_States_L1 y252 y294 k i v298) hm hl (fun _ _ _=>rfl) v298
def M_b_States_L2_B (_:List (List Int))(y252:Int)(_y294:List Int)(_:Int):((List (List Int)))→(((List (List Int)))→Option (List (List Int)))→Option (List (List Int)):=fun v284 rc=>ob1 (ixv _y294 (fun y294=>M_b_States_L1 y252 y294 ((y252).toNat+1) 0 v284):Option (List (List Int))) (fun v292=>rc (v292))
def M_b_States_L2_E (_:List (List Int))(_:Int):((List (List Int)))→Option (List (List Int)):=fun v284=>some v284
theorem M_b_States_L2_eq (v199:List (List Int))(y252:Int)(v284:List (List Int))(hl:v199.length<9223372036854775807):M_b_States_L2 v199 y252 (((v199.map cL_cI).length:Int).toNat+1) 0 v284=Rg (M_b_States_L2_B v199 y252) (M_b_States_L2_E v199 y252) v199 0 v284:=rg_e2 (L:=fun k i v284=>M_b_States_L2 v199 y252 k i v284) hl (fun k n p y hy h1 h2=>by first|(simp only[M_b_States_L2,M_b_States_L2_B,lM_,decide_lt h1,sel,ix_at hy,ixv,h2];done)|(simp only[lM_]at h1 hy;(simp only[M_b_States_L2,M_b_States_L2_B,lM_,decide_lt h1,sel,ix_at hy,ixv,h2];done))) (fun k p=>by simp only[M_b_States_L2,M_b_States_L2_E,lM_,decide_ge,sel]) v284
def M_b_States_L3_B (_:List Int)(_y252:Int)(_:Int):((List (List Int)))→(((List (List Int)))→Option (List (List Int)))→Option (List (List Int)):=fun v199 rc=>ob1 (ixv _y252 (fun y252=>M_b_States_L2 v199 y252 ((((v199.map cL_cI).length:Int)).toNat+1) 0 []):Option (List (List Int))) (fun v250=>grd (v250.length≤140737488355328) (rc (v250)))
def M_b_States_L3_E (_:List Int):((List (List Int)))→Option (List (List Int)):=fun v199=>some v199
theorem M_b_States_L3_eq (a0:List Int)(v199:List (List Int))(hl:a0.length<9223372036854775807):M_b_States_L3 a0 (((a0.map cI).length:Int).toNat+1) v199 0=Rg (M_b_States_L3_B a0) (M_b_States_L3_E a0) a0 0 v199:=rg_e2 (L:=fun k i v199=>M_b_States_L3 a0 k v199 i) hl (fun k n p y hy h1 h2=>by first|(simp only[M_b_States_L3,M_b_States_L3_B,lM_,decide_lt h1,sel,ix_at hy,ixv,h2];done)|(simp only[lM_]at h1 hy;(simp only[M_b_States_L3,M_b_States_L3_B,lM_,decide_lt h1,sel,ix_at hy,ixv,h2];done))) (fun k p=>by simp only[M_b_States_L3,M_b_States_L3_E,lM_,decide_ge,sel]) v199
def M_b_Holds_L1_B (_:List Fact)(a1:List Int)(_y8:Fact)(_:Int):Unit→(Unit→Option (Bool))→Option (Bool):=fun _ rc=>ixv _y8 (fun y8=>sel (decide (y8.1<0)) (some false) (sel (decide (y8.1≥((a1.map cI).length:Int))) (some false) (ix a1 y8.1 (fun y9=>sel (y9 != y8.2) (some false) (rc ())))))
def M_b_Holds_L1_E (_:List Fact)(_:List Int):Unit→Option (Bool):=fun _=>some true
theorem M_b_Holds_L1_eq (a0:List Fact)(a1:List Int)  (hl:a0.length<9223372036854775807):M_b_Holds_L1 a0 a1 (((a0.map cF).length:Int).toNat+1) 0=Rg (M_b_Holds_L1_B a0 a1) (M_b_Holds_L1_E a0 a1) a0 0 ():=rg_e1 (L:=fun k i _=>M_b_Holds_L1 a0 a1 k i) hl (fun _ _ _=>rfl) ()
def M_b_Apply_L1_B (a1:List Int)(_:GOp)(_y20:GEffect)(_:Int):((List Int))→(((List Int))→Option ((List Int)×Bool))→Option ((List Int)×Bool):=fun v18 rc=>ixv _y20 (fun y20=>ob1 (M_b_Holds y20.When a1) (fun z21=>sel z21 (ixn v18 ((y20.Var).toNat) (fun _=>grd (0≤y20.Var) (grd (y20.Var<((v18.length:Nat):Int)) (rc ((v18.set ((y20.Var).toNat) y20.Val)))))) (rc (v18))))
def M_b_Apply_L1_E (_:List Int)(_:GOp):((List Int))→Option ((List Int)×Bool):=fun v18=>grd (v18.length≤140737488355328) (some (v18,true))
theorem M_b_Apply_L1_eq (a1:List Int)(y8:GOp)(v18:List Int)(hl:y8.Effs.length<9223372036854775807):M_b_Apply_L1 a1 y8 (((y8.Effs.map cGEffect).length:Int).toNat+1) 0 v18=Rg (M_b_Apply_L1_B a1 y8) (M_b_Apply_L1_E a1 y8) y8.Effs 0 v18:=rg_e1 (L:=fun k i v18=>M_b_Apply_L1 a1 y8 k i v18) hl (fun _ _ _=>rfl) v18
end Go.Proofs.YtinknhophadbkaaGreatDoor.Am
namespace Go.Proofs.YtinknhophadbkaaGreatDoor.Am
open Go.RowKit
section
variable {α β : Type}
theorem ix_getD {l:List α}{i:Int}{d:α}{k:α→Option β}(h0:0≤i)(h1:i<l.length):ix l i k=k (l.getD i.toNat d):=by
 obtain⟨n,rfl⟩:∃ n:Nat,i=n:=⟨i.toNat,by omega⟩
 have hn:n<l.length:=by omega
 rw[ix_at (gE_ hn),Int.toNat_natCast]
 simp[hn]
end
abbrev Sh {α:Type}(l:List α):Prop:=l.length≤140737488355328
theorem Sh.lt {α:Type}{l:List α}(h:Sh l):l.length<9223372036854775807:=Nat.lt_of_le_of_lt h (by decide)
def propF (vars:List Int):Int→List Fact→Bool
 | _,[]=>true
 | last,y :: r=>decide (last<y.1∧y.1<vars.length∧0≤y.2∧y.2<vars.getD y.1.toNat 0)&&propF vars y.1 r
theorem facts_loop (vars:List Int)(l:List Fact):∀ (r:List Fact)(i last:Int),-1≤last→Rg (M_task_Facts_L1_B vars l) (M_task_Facts_L1_E vars l) r i last=some (propF vars last r)
 | [],_,_,_=>rfl
 | y :: r,i,last,hl=>by
  rw[Rg,propF]
  simp only[M_task_Facts_L1_B,ixv,sel_dec,lM_]
  by_cases h1:y.1≤last
  ·rw[if_pos h1,decide_eq_false (by omega)];rfl
  ·rw[if_neg h1]
   by_cases h2:y.1≥vars.length
   ·rw[if_pos h2,decide_eq_false (by omega)];rfl
   ·rw[if_neg h2]
    by_cases h3:y.2<0
    ·rw[if_pos h3,decide_eq_false (by omega)];rfl
    ·rw[if_neg h3,ix_getD (d:=0) (by omega) (by omega)]
     by_cases h4:y.2≥vars.getD y.1.toNat 0
     ·rw[if_pos h4,decide_eq_false (by omega)];rfl
     ·rw[if_neg h4,decide_eq_true (by omega),facts_loop vars l r (i+1) y.1 (by omega)];rfl
theorem facts_eq (vars:List Int)(l:List Fact)(hl:Sh l):M_task_Facts vars l=some (propF vars (-1) l):=by
 rw[M_task_Facts,M_task_Facts_L1_eq _ _ _ hl.lt]
 exact facts_loop vars l l 0 (-1) (by omega)
theorem proper_loop (vars:List Int)(l:List Fact)(hs:Sh l):∀ (r:List Fact)(n:Nat)(last:Int),l.drop n=r→n≤l.length→-1≤last→(n=0→last=-1)→(∀ m,n=m+1→∃ x,l[m]?=some x∧x.1=last)→Rg (M_b_Proper_L1_B vars l) (M_b_Proper_L1_E vars l) r n ()=some (propF vars last r)
 | [],_,_,_,_,_,_,_=>rfl
 | y :: r,n,last,hd,hn,hl,h0,hp=>by
  rw[Rg,propF]
  have hlt:n<l.length:=by
   rcases Nat.lt_or_ge n l.length with h|h
   ·exact h
   ·rw[List.drop_eq_nil_of_le h]at hd;cases hd
  have hy:l[n]?=some y:=by
   have:=congrArg (·[0]?) hd
   simpa [List.getElem?_drop] using this
  have hd':l.drop (n+1)=r:=by
   have:=congrArg List.tail hd
   simpa using this
  have hrec:=proper_loop vars l hs r (n+1) y.1 hd' hlt
  have hih:0≤y.1→Rg (M_b_Proper_L1_B vars l) (M_b_Proper_L1_E vars l) r ((n:Int)+1) ()=some (propF vars y.1 r):=fun h=>hrec (by omega) (by omega) (fun m hm=>⟨y,by rw[show m=n by omega];exact hy,rfl⟩)
  simp only[M_b_Proper_L1_B,ixv,sel_dec,lM_]
  by_cases h1:y.1<0
  ·rw[if_pos h1,decide_eq_false (by omega)];rfl
  ·rw[if_neg h1]
   by_cases h2:y.1≥vars.length
   ·rw[if_pos h2,decide_eq_false (by omega)];rfl
   ·rw[if_neg h2]
    by_cases h3:y.2<0
    ·rw[if_pos h3,decide_eq_false (by omega)];rfl
    ·rw[if_neg h3,ix_getD (d:=0) (by omega) (by omega)]
     by_cases h4:y.2≥vars.getD y.1.toNat 0
     ·rw[if_pos h4,decide_eq_false (by omega)];rfl
     ·rw[if_neg h4]
      cases n with
      | zero =>
       have:=h0 rfl
       rw[if_neg (by omega),decide_eq_true (by omega)]
       exact hih (by omega)
      | succ m =>
       obtain⟨x,hx,hxl⟩:=hp m rfl
       rw[if_pos (by omega),w64 (by omega) (by have:=hs;unfold Sh at this;omega),show(((m+1:Nat):Int)-1)=(m:Int)by omega,ix_at hx]
       by_cases h5:x.1≥y.1
       ·rw[if_pos h5,decide_eq_false (by omega)];rfl
       ·rw[if_neg h5,decide_eq_true (by omega)]
        exact hih (by omega)
theorem proper_eq (vars:List Int)(l:List Fact)(hl:Sh l):M_b_Proper vars l=some (propF vars (-1) l):=by
 rw[M_b_Proper,M_b_Proper_L1_eq _ _ hl.lt]
 exact proper_loop vars l hl l 0 (-1) rfl (Nat.zero_le _) (by omega) (fun _=>rfl) (fun m hm=>by omega)
def stateF : List Int→List Int→Bool
 | [],[]=>true
 | n :: r,x :: s=>decide (0≤x∧x<n)&&stateF r s
 | _,_=>false
theorem stateF_len : ∀ {v s:List Int},v.length≠s.length→stateF v s=false
 | [],[],h=>absurd rfl h
 | [],_ :: _,_=>rfl
 | _ :: _,[],_=>rfl
 | n :: r,x :: s,h=>by rw[stateF,stateF_len (by simpa using h),Bool.and_false]
theorem drop_cons {α:Type}{l r:List α}{n:Nat}{y:α}(h:l.drop n=y :: r):l[n]?=some y∧l.drop (n+1)=r∧n<l.length:=by
 have hlt:n<l.length:=by
  rcases Nat.lt_or_ge n l.length with h'|h'
  ·exact h'
  ·rw[List.drop_eq_nil_of_le h']at h;cases h
 refine⟨?_,?_,hlt⟩
 ·have:=congrArg (·[0]?) h
  simpa [List.getElem?_drop] using this
 ·have:=congrArg List.tail h
  simpa using this
theorem tproper_loop (vars l:List Int):∀ (r s:List Int)(n:Nat),l.drop n=r→vars.drop n=s→r.length=s.length→Rg (M_task_Proper_L1_B vars l) (M_task_Proper_L1_E vars l) r n ()=some (stateF s r)
 | [],[],_,_,_,_=>rfl
 | [],_ :: _,_,_,_,h=>by simp at h
 | _ :: _,[],_,_,_,h=>by simp at h
 | y :: r,v :: s,n,h1,h2,h3=>by
  obtain⟨a1,a2,_⟩:=drop_cons h1
  obtain⟨b1,b2,_⟩:=drop_cons h2
  have ih:=tproper_loop vars l r s (n+1) a2 b2 (by simpa using h3)
  rw[Rg,stateF]
  simp only[M_task_Proper_L1_B,ixv,sel_dec,ix_at b1]
  by_cases c1:y<0
  ·rw[if_pos c1,decide_eq_false (by omega)];rfl
  ·rw[if_neg c1]
   by_cases c2:y≥v
   ·rw[if_pos c2,decide_eq_false (by omega)];rfl
   ·rw[if_neg c2,decide_eq_true (by omega)]
    exact ih
theorem state_loop (vars l:List Int):∀ (r s:List Int)(n:Nat),l.drop n=r→vars.drop n=s→r.length=s.length→Rg (M_b_State_L1_B vars l) (M_b_State_L1_E vars l) r n ()=some (stateF s r)
 | [],[],_,_,_,_=>rfl
 | [],_ :: _,_,_,_,h=>by simp at h
 | _ :: _,[],_,_,_,h=>by simp at h
 | y :: r,v :: s,n,h1,h2,h3=>by
  obtain⟨a1,a2,_⟩:=drop_cons h1
  obtain⟨b1,b2,_⟩:=drop_cons h2
  have ih:=state_loop vars l r s (n+1) a2 b2 (by simpa using h3)
  rw[Rg,stateF]
  simp only[M_b_State_L1_B,ixv,sel_dec,ix_at b1,ix_at a1]
  by_cases c1:y<0
  ·rw[if_pos c1,decide_eq_false (by omega)];rfl
  ·rw[if_neg c1]
   by_cases c2:y≥v
   ·rw[if_pos c2,decide_eq_false (by omega)];rfl
   ·rw[if_neg c2,decide_eq_true (by omega)]
    exact ih
theorem bne_len (a b:Nat):((a:Int) != (b:Int))=decide (a≠b):=by
 by_cases h:a=b
 ·subst h;simp
 ·have:¬ ((a:Int)=(b:Int)):=by omega
  simp[h,this,bne]
theorem tproper_eq (vars l:List Int)(hl:Sh l):M_task_Proper vars l=some (stateF vars l):=by
 rw[M_task_Proper,M_task_Proper_L1_eq _ _ hl.lt,lM_,lM_,bne_len,sel_dec]
 split
 ·rename_i h;rw[stateF_len (fun e=>h e.symm)]
 ·rename_i h;exact tproper_loop vars l l vars 0 rfl rfl (by omega)
theorem state_eq (vars l:List Int)(hl:Sh l):M_b_State vars l=some (stateF vars l):=by
 rw[M_b_State,M_b_State_L1_eq _ _ hl.lt,lM_,lM_,bne_len,sel_dec]
 split
 ·rename_i h;rw[stateF_len (fun e=>h e.symm)]
 ·rename_i h;exact state_loop vars l l vars 0 rfl rfl (by omega)
theorem rg_all {α γ:Type}{B:α→Int→Unit→(Unit→Option γ)→Option γ}{E:Unit→Option γ}{p:α→Bool}{c:Option γ}:∀ {l:List α}{i:Int},(∀ y∈l,∀ i rc,B y i () rc=if p y=true then rc ()else c)→Rg B E l i ()=if l.all p=true then E ()else c
 | [],_,_=>rfl
 | y :: r,i,h=>by
  rw[Rg,h y (by simp),List.all_cons]
  cases hp:p y
  ·simp
  ·simp only[Bool.true_and,if_true]
   exact rg_all (fun z hz=>h z (by simp[hz]))
theorem rn_all {γ:Type}{B:Int→Unit→(Unit→Option γ)→Option γ}{E:Unit→Option γ}{p:Nat→Bool}{c:Option γ}:∀ {m n:Nat},(∀ k,n≤k→k<n+m→∀ rc,B k () rc=if p k=true then rc ()else c)→Rn B E m n ()=if(List.range' n m).all p=true then E ()else c
 | 0,_,_=>rfl
 | m+1,n,h=>by
  rw[Rn,h n (Nat.le_refl _) (by omega),List.range'_succ,List.all_cons]
  cases hp:p n
  ·simp
  ·simp only[Bool.true_and,if_true]
   have:=rn_all (m:=m) (n:=n+1) (E:=E) (fun k h1 h2=>h k (by omega) (by omega))
   exact this
def charF (c:UInt8):Bool:=decide (32≤c.toNat∧c.toNat≤126)
theorem byt_at (s:ByteArray)(k:Nat)(h:k<s.size):∃ c,(bl s)[k]?=some c∧byt s (k:Int)=(c.toNat:Int):=by
 have h':k<(bl s).length:=by rw[bl_len];exact h
 exact⟨(bl s)[k],gE_ h',byt_bl s k h⟩
theorem range_bytes (s:ByteArray)(p:UInt8→Bool):(List.range' 0 s.size).all (fun k=>match(bl s)[k]? with|some c=>p c|none=>false)=(bl s).all p:=by
 rw[Bool.eq_iff_iff,List.all_eq_true,List.all_eq_true]
 constructor
 ·intro h c hc
  obtain⟨k,hk⟩:=List.getElem?_of_mem hc
  have hlt:k<s.size:=by rw[← bl_len];exact(gS_.1 hk).1
  have:=h k (by simp;exact hlt)
  rw[hk]at this
  exact this
 ·intro h k hk
  have hlt:k<(bl s).length:=by rw[bl_len];simpa using hk
  rw[gE_ hlt]
  exact h _ (List.getElem_mem hlt)
theorem named_eq (s:ByteArray)(hs:s.size≤9223372036854775806):M_task_named s=some ((bl s).all charF&&decide (s.size≤256)):=by
 rw[M_task_named,M_task_named_L1_eq _ rfl (by omega)]
 have:=rn_all (γ:=Bool) (B:=M_task_named_L1_B s) (E:=M_task_named_L1_E s) (p:=fun k=>match(bl s)[k]? with|some c=>charF c|none=>false) (c:=some false) (m:=s.size) (n:=0) (fun k _ hk rc=>by
  obtain⟨c,h1,h2⟩:=byt_at s k (by omega)
  have g1:(0:Int)≤(k:Int):=by omega
  have g2:(k:Int)<(s.size:Int):=by omega
  simp only[M_task_named_L1_B,h1,h2,sel_dec,grd_t g1,grd_t g2]
  unfold charF
  by_cases c1:(c.toNat:Int)<32
  ·rw[if_pos c1,if_neg (by simp;omega)]
  ·rw[if_neg c1]
   by_cases c2:(c.toNat:Int)>126
   ·rw[if_pos c2,if_neg (by simp;omega)]
   ·rw[if_neg c2,if_pos (by simp;omega)])
 rw[show((0:Int))=((0:Nat):Int)from rfl,this,range_bytes]
 cases (bl s).all charF
 ·rfl
 ·by_cases h:s.size≤256 <;> simp[M_task_named_L1_E,h] <;> omega
def effF (vars:List Int)(e:GEffect):Bool:=propF vars (-1) e.When&&propF vars (-1) [(e.Var,e.Val)]
def opF (vars:List Int)(o:GOp):Bool:=decide (0≤o.Cost∧o.Cost≤1048576∧o.Effs.length≤64∧o.Name.size≤256)&&(propF vars (-1) o.Pre&&((bl o.Name).all charF&&o.Effs.all (effF vars)))
def goodF (t:GTask):Bool:=decide (t.Vars.length≤64∧t.Ops.length≤4096)&&(t.Vars.all (fun n=>decide (1≤n∧n≤64))&&(stateF t.Vars t.Init&&(propF t.Vars (-1) t.Goal&&t.Ops.all (opF t.Vars))))
structure ShO (o:GOp):Prop where
 name:o.Name.size≤9223372036854775806
 pre:Sh o.Pre
 effs:Sh o.Effs
 when:∀ e∈o.Effs,Sh e.When
structure ShT (t:GTask):Prop where
 vars:Sh t.Vars
 init:Sh t.Init
 goal:Sh t.Goal
 ops:Sh t.Ops
 op:∀ o∈t.Ops,ShO o
theorem two_checks {α:Type}{b1 b2:Bool}{c x:Option α}:sel (!b1) c (sel (!b2) c x)=if(b1&&b2)=true then x else c:=by cases b1 <;> cases b2 <;> rfl
theorem operator_eq (vars:List Int)(o:GOp)(ho:ShO o):M_b_operator vars o=some (opF vars o):=by
 have hn:=ho.name
 have e1:M_b_operator_L1 o (((o.Name.size:Int)).toNat+1) 0=if(bl o.Name).all charF=true then some (.inl ())else some (.inr false):=by
  rw[M_b_operator_L1_eq _ rfl (by omega)]
  have:=rn_all (γ:=Unit⊕Bool) (B:=M_b_operator_L1_B o) (E:=M_b_operator_L1_E o) (p:=fun k=>match(bl o.Name)[k]? with|some c=>charF c|none=>false) (c:=some (.inr false)) (m:=o.Name.size) (n:=0) (fun k _ hk rc=>by
   obtain⟨c,h1,h2⟩:=byt_at o.Name k (by omega)
   have g1:(0:Int)≤(k:Int):=by omega
   have g2:(k:Int)<(o.Name.size:Int):=by omega
   simp only[M_b_operator_L1_B,h1,h2,sel_dec,grd_t g1,grd_t g2]
   unfold charF
   by_cases c1:(c.toNat:Int)<32
   ·rw[if_pos c1,if_neg (by simp;omega)]
   ·rw[if_neg c1]
    by_cases c2:(c.toNat:Int)>126
    ·rw[if_pos c2,if_neg (by simp;omega)]
    ·rw[if_neg c2,if_pos (by simp;omega)])
  rw[show((0:Int))=((0:Nat):Int)from rfl,this,range_bytes]
  rfl
 have e2:M_b_operator_L2 vars o ((((o.Effs.map cGEffect).length:Int)).toNat+1) 0=some (o.Effs.all (effF vars)):=by
  rw[M_b_operator_L2_eq _ _ ho.effs.lt,rg_all (p:=effF vars) (c:=some false) (fun e he i rc=>by
   simp only[M_b_operator_L2_B,ixv,proper_eq vars _ (ho.when e he),proper_eq vars [(e.Var,e.Val)] (by simp[Sh]),ob1_some,effF]
   exact two_checks)]
  cases o.Effs.all (effF vars) <;> rfl
 rw[M_b_operator,e1,e2,proper_eq _ _ ho.pre]
 unfold opF
 simp only[sel_dec,lM_,ob1_some]
 by_cases c1:o.Cost<0
 ·rw[if_pos c1,decide_eq_false (by omega)];rfl
 ·rw[if_neg c1]
  by_cases c2:o.Cost>1048576
  ·rw[if_pos c2,decide_eq_false (by omega)];rfl
  ·rw[if_neg c2]
   by_cases c3:(o.Effs.length:Int)>64
   ·rw[if_pos c3,decide_eq_false (by omega)];rfl
   ·rw[if_neg c3]
    by_cases c4:(o.Name.size:Int)>256
    ·rw[if_pos c4,decide_eq_false (by omega)];rfl
    ·rw[if_neg c4,decide_eq_true (by omega)]
     cases propF vars (-1) o.Pre
     ·rfl
     ·cases (bl o.Name).all charF <;> rfl
theorem good_eq (t:GTask)(ht:ShT t):M_b_Good t=some (goodF t):=by
 have e1:M_b_Good_L1 t ((((t.Vars.map cI).length:Int)).toNat+1) 0=if t.Vars.all (fun n=>decide (1≤n∧n≤64))=true then some (.inl ())else some (.inr false):=by
  rw[M_b_Good_L1_eq _ ht.vars.lt,rg_all (p:=fun n=>decide (1≤n∧n≤64)) (c:=some (.inr false)) (fun n _ i rc=>by
   simp only[M_b_Good_L1_B,ixv,sel_dec]
   by_cases c1:n<1
   ·rw[if_pos c1,if_neg (by simp;omega)]
   ·rw[if_neg c1]
    by_cases c2:n>64
    ·rw[if_pos c2,if_neg (by simp;omega)]
    ·rw[if_neg c2,if_pos (by simp;omega)])]
  rfl
 have e2:M_b_Good_L2 t ((((t.Ops.map cGOp).length:Int)).toNat+1) 0=some (t.Ops.all (opF t.Vars)):=by
  rw[M_b_Good_L2_eq _ ht.ops.lt,rg_all (p:=opF t.Vars) (c:=some false) (fun o ho i rc=>by
   simp only[M_b_Good_L2_B,ixv,operator_eq t.Vars o (ht.op o ho),ob1_some]
   cases opF t.Vars o <;> rfl)]
  cases t.Ops.all (opF t.Vars) <;> rfl
 rw[M_b_Good,e1,e2,state_eq _ _ ht.init,proper_eq _ _ ht.goal]
 unfold goodF
 simp only[sel_dec,lM_,ob1_some]
 by_cases c1:(t.Vars.length:Int)>64
 ·rw[if_pos c1,decide_eq_false (by omega)];rfl
 ·rw[if_neg c1]
  by_cases c2:(t.Ops.length:Int)>4096
  ·rw[if_pos c2,decide_eq_false (by omega)];rfl
  ·rw[if_neg c2,decide_eq_true (by omega)]
   cases t.Vars.all (fun n=>decide (1≤n∧n≤64))
   ·rfl
   ·cases stateF t.Vars t.Init
    ·rfl
    ·cases propF t.Vars (-1) t.Goal <;> rfl
theorem idx_eq {l:List (List Fact)}{f:List Fact→Option Bool}{p:List Fact→Bool}(hl:Sh l)(h:∀ y∈l,f y=some (p y)):∃ z,M_s_IndexFunc_Fact l f=some z∧(0≤z↔l.any p=true):=by
 rw[M_s_IndexFunc_Fact,M_s_IndexFunc_Fact_L1_eq _ _ hl.lt]
 have key:∀ (r:List (List Fact)) (n:Nat),(∀ y∈r,f y=some (p y))→∃ z,Rg (M_s_IndexFunc_Fact_L1_B l f) (M_s_IndexFunc_Fact_L1_E l f) r n ()=some z∧(0≤z↔r.any p=true):=by
  intro r
  induction r with
  | nil=>intro n _;exact⟨-1,rfl,by simp⟩
  | cons y r ih =>
   intro n hr
   rw[Rg]
   simp only[M_s_IndexFunc_Fact_L1_B,ixv,hr y (by simp),ob1_some]
   cases hp:p y
   ·obtain⟨z,h1,h2⟩:=ih (n+1) (fun w hw=>hr w (by simp[hw]))
    exact⟨z,h1,by rw[h2,List.any_cons,hp,Bool.false_or]⟩
   ·exact⟨n,rfl,by simp[hp]⟩
 exact key l 0 h
theorem containsFunc_eq {l:List (List Fact)}{f:List Fact→Option Bool}{p:List Fact→Bool}(hl:Sh l)(h:∀ y∈l,f y=some (p y)):M_s_ContainsFunc_Fact l f=some (l.any p):=by
 obtain⟨z,h1,h2⟩:=idx_eq hl h
 rw[M_s_ContainsFunc_Fact,h1,ob1_some]
 congr 1
 rw[Bool.eq_iff_iff,decide_eq_true_iff,ge_iff_le,h2]
def condsO (o:GOp):List (List Fact):=o.Pre :: o.Effs.map (·.When)
def condsF (t:GTask):List (List Fact):=t.Goal :: t.Ops.flatMap condsO
theorem conds1 (o:GOp):∀ (r:List GEffect)(i:Int)(v:List (List Fact)),v.length+r.length≤1000000→Rg (M_task_conditions_L1_B o) (M_task_conditions_L1_E o) r i v=some (v++r.map (·.When))
 | [],_,v,_=>by simp[Rg,M_task_conditions_L1_E]
 | e :: r,i,v,h=>by
  simp only[lC_]at h
  rw[Rg]
  simp only[M_task_conditions_L1_B,ixv,grd_t (show(v.length+1)*24≤140737488355328 by omega)]
  rw[conds1 o r (i+1) (v++[e.When]) (by simp;omega)]
  simp
theorem conds2 (t:GTask):∀ (r:List GOp)(i:Int)(v:List (List Fact)),(∀ o∈r,o.Effs.length≤64)→v.length+r.length*65≤1000000→Rg (M_task_conditions_L2_B t) (M_task_conditions_L2_E t) r i v=some (v++r.flatMap condsO)
 | [],_,v,_,h=>by
  simp only[lN_]at h
  simp[Rg,M_task_conditions_L2_E,grd_t (show v.length≤140737488355328 by omega)]
 | o :: r,i,v,hr,h=>by
  simp only[lC_]at h
  have ho:=hr o (by simp)
  rw[Rg]
  simp only[M_task_conditions_L2_B,ixv,grd_t (show(v.length+1)*24≤140737488355328 by omega)]
  rw[M_task_conditions_L1_eq o _ (by omega),conds1 o o.Effs 0 (v++[o.Pre]) (by simp;omega),ob1_some,conds2 t r (i+1) _ (fun q hq=>hr q (by simp[hq])) (by simp;omega)]
  simp[condsO]
theorem conds_eq (t:GTask)(h1:t.Ops.length≤4096)(h2:∀ o∈t.Ops,o.Effs.length≤64):M_task_conditions t=some (condsF t):=by
 rw[M_task_conditions,M_task_conditions_L2_eq _ _ (by omega),conds2 t t.Ops 0 [t.Goal] h2 (by simp;omega)]
 rfl
theorem flat_len : ∀ (r:List GOp),(∀ o∈r,o.Effs.length≤64)→(r.flatMap condsO).length≤r.length*65
 | [],_=>by simp
 | o :: r,h=>by
  have h1:=flat_len r (fun q hq=>h q (by simp[hq]))
  have h2:=h o (by simp)
  have h3:(condsO o).length=o.Effs.length+1:=by simp[condsO]
  rw[List.flatMap_cons,lA_,lC_]
  omega
theorem conds_len (t:GTask)(h1:t.Ops.length≤4096)(h2:∀ o∈t.Ops,o.Effs.length≤64):(condsF t).length≤300000:=by
 have:=flat_len t.Ops h2
 rw[condsF,lC_]
 omega
def largeF (t:GTask):Bool:=decide (t.Vars.length>64)||(decide (t.Ops.length>4096)||(t.Ops.any (fun o=>decide (o.Effs.length>64))||(condsF t).any (fun l=>decide (l.length>64))))
theorem large_eq (t:GTask)(ht:ShT t):M_task_large t=some (largeF t):=by
 rw[M_task_large]
 unfold largeF
 simp only[sel_dec,lM_]
 by_cases c1:(t.Vars.length:Int)>64
 ·rw[if_pos c1,decide_eq_true (by omega)];rfl
 ·rw[if_neg c1,decide_eq_false (by omega)]
  by_cases c2:(t.Ops.length:Int)>4096
  ·rw[if_pos c2,decide_eq_true (p:=t.Ops.length>4096) (by omega)];rfl
  ·rw[if_neg c2,decide_eq_false (p:=t.Ops.length>4096) (by omega),ob1_some,osum_inl]
   have e:=M_task_large_L1_eq t ht.ops.lt
   rw[lM_]at e
   rw[e]
   simp only[Bool.false_or]
   by_cases c3:∃ o∈t.Ops,o.Effs.length>64
   ·have:(t.Ops.any (fun o=>decide (o.Effs.length>64)))=true:=by
     rw[List.any_eq_true]
     obtain⟨o,h1,h2⟩:=c3
     exact⟨o,h1,by simpa using h2⟩
    rw[this,Bool.true_or,rg_all (p:=fun o=>decide (o.Effs.length≤64)) (c:=some true) (fun o _ i rc=>by
     simp only[M_task_large_L1_B,ixv,sel_dec,lM_]
     by_cases c:(o.Effs.length:Int)>64
     ·rw[if_pos c,if_neg (by simp;omega)]
     ·rw[if_neg c,if_pos (by simp;omega)]),if_neg]
    rw[List.all_eq_true]
    intro h
    obtain⟨o,h1,h2⟩:=c3
    have:=h o h1
    simp at this
    omega
   ·have hall:∀ o∈t.Ops,o.Effs.length≤64:=fun o ho=>by
     rcases Nat.lt_or_ge 64 o.Effs.length with h|h
     ·exact absurd ⟨o,ho,h⟩ c3
     ·exact h
    have:(t.Ops.any (fun o=>decide (o.Effs.length>64)))=false:=by
     rw[List.any_eq_false]
     intro o ho
     have:=hall o ho
     simp;omega
    rw[this,Bool.false_or,rg_all (p:=fun o=>decide (o.Effs.length≤64)) (c:=some true) (fun o _ i rc=>by
     simp only[M_task_large_L1_B,ixv,sel_dec,lM_]
     by_cases c:(o.Effs.length:Int)>64
     ·rw[if_pos c,if_neg (by simp;omega)]
     ·rw[if_neg c,if_pos (by simp;omega)]),if_pos (by rw[List.all_eq_true];intro o ho;have:=hall o ho;simpa using this)]
    have hc:=conds_len t (by omega) hall
    rw[M_task_large_L1_E,conds_eq t (by omega) hall,ob1_some,containsFunc_eq (p:=fun l=>decide (l.length>64)) (by unfold Sh;omega) (fun y _=>by
     rw[M_task_large_1,lM_]
     congr 1
     rw[Bool.eq_iff_iff,decide_eq_true_iff,decide_eq_true_iff]
     omega)]
    rfl
def checkF (t:GTask):Er :=
 if largeF t=true then .no 5
 else if t.Vars.all (fun n=>decide (1≤n∧n≤64))=true then
  if t.Ops.all (fun o=>decide (0≤o.Cost∧o.Cost≤1048576))=true then
   if(stateF t.Vars t.Init&&((condsF t).all (propF t.Vars (-1))&&t.Ops.all (fun o=>o.Effs.all (fun e=>propF t.Vars (-1) [(e.Var,e.Val)]))))=true then
    if t.Ops.all (fun o=>(bl o.Name).all charF&&decide (o.Name.size≤256))=true then .nil else .no 8
   else .no 2
  else .no 1
 else .no 1
theorem notlarge {t:GTask}(h:largeF t=false):t.Vars.length≤64∧t.Ops.length≤4096∧(∀ o∈t.Ops,o.Effs.length≤64)∧∀ l∈condsF t,l.length≤64:=by
 unfold largeF at h
 simp only[Bool.or_eq_false_iff,decide_eq_false_iff_not,List.any_eq_false,decide_eq_true_iff]at h
 obtain⟨h1,h2,h3,h4⟩:=h
 exact⟨by omega,by omega,fun o ho=>by have:=h3 o ho;omega,fun l hl=>by have:=h4 l hl;omega⟩
theorem conds_sh {t:GTask}(ht:ShT t):∀ l∈condsF t,Sh l:=by
 intro l hl
 simp only[condsF,List.mem_cons,List.mem_flatMap,condsO,List.mem_map]at hl
 rcases hl with rfl|⟨o,ho,rfl|⟨e,he,rfl⟩⟩
 ·exact ht.goal
 ·exact(ht.op o ho).pre
 ·exact(ht.op o ho).when e he
theorem check_eq (t:GTask)(ht:ShT t):M_task_Check t=some (checkF t):=by
 have e1:M_task_Check_L1 t ((((t.Vars.map cI).length:Int)).toNat+1) 0=if t.Vars.all (fun n=>decide (1≤n∧n≤64))=true then some (.inl ())else some (.inr (Er.no 1)):=by
  rw[M_task_Check_L1_eq _ ht.vars.lt,rg_all (p:=fun n=>decide (1≤n∧n≤64)) (c:=some (.inr (Er.no 1))) (fun n _ i rc=>by
   simp only[M_task_Check_L1_B,ixv,sel_dec]
   by_cases c1:n<1
   ·rw[if_pos c1,if_neg (by simp;omega)]
   ·rw[if_neg c1]
    by_cases c2:n>64
    ·rw[if_pos c2,if_neg (by simp;omega)]
    ·rw[if_neg c2,if_pos (by simp;omega)])]
  rfl
 have e2:M_task_Check_L2 t ((((t.Ops.map cGOp).length:Int)).toNat+1) 0=if t.Ops.all (fun o=>decide (0≤o.Cost∧o.Cost≤1048576))=true then some (.inl ())else some (.inr (Er.no 1)):=by
  rw[M_task_Check_L2_eq _ ht.ops.lt,rg_all (p:=fun o=>decide (0≤o.Cost∧o.Cost≤1048576)) (c:=some (.inr (Er.no 1))) (fun o _ i rc=>by
   simp only[M_task_Check_L2_B,ixv,sel_dec]
   by_cases c1:o.Cost<0
   ·rw[if_pos c1,if_neg (by simp;omega)]
   ·rw[if_neg c1]
    by_cases c2:o.Cost>1048576
    ·rw[if_pos c2,if_neg (by simp;omega)]
    ·rw[if_neg c2,if_pos (by simp;omega)])]
  rfl
 have e3:∀ z:List (List Fact),Sh z→(∀ l∈z,Sh l)→M_task_Check_L3 t z ((((z.map cL_cF).length:Int)).toNat+1) 0=if z.all (propF t.Vars (-1))=true then some (.inl ())else some (.inr (Er.no 2)):=fun z hz hz2=>by
  rw[M_task_Check_L3_eq _ _ hz.lt,rg_all (p:=propF t.Vars (-1)) (c:=some (.inr (Er.no 2))) (fun l hl i rc=>by
   simp only[M_task_Check_L3_B,ixv,facts_eq t.Vars l (hz2 l hl),ob1_some]
   cases propF t.Vars (-1) l <;> rfl)]
  rfl
 have e4:∀ o∈t.Ops,M_task_Check_L4 t o ((((o.Effs.map cGEffect).length:Int)).toNat+1) 0=if o.Effs.all (fun e=>propF t.Vars (-1) [(e.Var,e.Val)])=true then some (.inl ())else some (.inr (Er.no 2)):=fun o ho=>by
  rw[M_task_Check_L4_eq _ _ (ht.op o ho).effs.lt,rg_all (p:=fun e=>propF t.Vars (-1) [(e.Var,e.Val)]) (c:=some (.inr (Er.no 2))) (fun e _ i rc=>by
   simp only[M_task_Check_L4_B,ixv,facts_eq t.Vars [(e.Var,e.Val)] (by simp[Sh]),ob1_some]
   cases propF t.Vars (-1) [(e.Var,e.Val)] <;> rfl)]
  rfl
 have e5:M_task_Check_L5 t ((((t.Ops.map cGOp).length:Int)).toNat+1) 0=if t.Ops.all (fun o=>o.Effs.all (fun e=>propF t.Vars (-1) [(e.Var,e.Val)]))=true then some (.inl ())else some (.inr (Er.no 2)):=by
  rw[M_task_Check_L5_eq _ ht.ops.lt,rg_all (p:=fun o=>o.Effs.all (fun e=>propF t.Vars (-1) [(e.Var,e.Val)])) (c:=some (.inr (Er.no 2))) (fun o ho i rc=>by
   simp only[M_task_Check_L5_B,ixv,e4 o ho]
   split <;> rfl)]
  rfl
 have e6:M_task_Check_L6 t ((((t.Ops.map cGOp).length:Int)).toNat+1) 0=if t.Ops.all (fun o=>(bl o.Name).all charF&&decide (o.Name.size≤256))=true then some .nil else some (Er.no 8):=by
  rw[M_task_Check_L6_eq _ ht.ops.lt,rg_all (p:=fun o=>(bl o.Name).all charF&&decide (o.Name.size≤256)) (c:=some (Er.no 8)) (fun o ho i rc=>by
   have:=(ht.op o ho).name
   simp only[M_task_Check_L6_B,ixv,named_eq o.Name (by omega),ob1_some]
   cases (bl o.Name).all charF&&decide (o.Name.size≤256) <;> rfl)]
  rfl
 rw[M_task_Check,large_eq t ht,ob1_some,e1,e2,e5,e6,tproper_eq _ _ ht.init]
 unfold checkF
 cases hlg:largeF t
 ·obtain⟨l1,l2,l3,l4⟩:=notlarge hlg
  have hc:=conds_len t l2 l3
  simp only[conds_eq t l2 l3,ob1_some,e3 (condsF t) (by unfold Sh;omega) (conds_sh ht),sel,Bool.false_eq_true,if_false]
  cases t.Vars.all (fun n=>decide (1≤n∧n≤64))
  ·rfl
  ·cases t.Ops.all (fun o=>decide (0≤o.Cost∧o.Cost≤1048576))
   ·rfl
   ·cases stateF t.Vars t.Init
    ·rfl
    ·cases (condsF t).all (propF t.Vars (-1))
     ·rfl
     ·cases t.Ops.all (fun o=>o.Effs.all (fun e=>propF t.Vars (-1) [(e.Var,e.Val)]))
      ·rfl
      ·cases t.Ops.all (fun o=>(bl o.Name).all charF&&decide (o.Name.size≤256)) <;> rfl
 ·rfl
theorem propF_len (vars:List Int):∀ (l:List Fact)(last:Int),propF vars last l=true→last<vars.length→(l.length:Int)+last<vars.length
 | [],_,_,h=>by simpa using h
 | y :: r,last,h,hl=>by
  rw[propF,bA_,decide_eq_true_iff]at h
  have:=propF_len vars r y.1 h.2 h.1.2.1
  simp only[lC_]
  omega
theorem propF_len' {vars:List Int}{l:List Fact}(h:propF vars (-1) l=true):l.length≤vars.length:=by
 have:=propF_len vars l (-1) h (by omega)
 omega
theorem good_check (t:GTask):goodF t=true↔checkF t=.nil:=by
 have hcond:(condsF t).all (propF t.Vars (-1))=true↔propF t.Vars (-1) t.Goal=true∧∀ o∈t.Ops,propF t.Vars (-1) o.Pre=true∧∀ e∈o.Effs,propF t.Vars (-1) e.When=true:=by
  simp only[condsF,List.all_cons,bA_,List.all_eq_true,List.mem_flatMap,condsO,List.mem_cons,List.mem_map]
  constructor
  ·rintro⟨h1,h2⟩
   exact⟨h1,fun o ho=>⟨h2 _ ⟨o,ho,.inl rfl⟩,fun e he=>h2 _ ⟨o,ho,.inr ⟨e,he,rfl⟩⟩⟩⟩
  ·rintro⟨h1,h2⟩
   refine⟨h1,?_⟩
   rintro l ⟨o,ho,rfl|⟨e,he,rfl⟩⟩
   ·exact(h2 o ho).1
   ·exact(h2 o ho).2 e he
 constructor
 ·intro h
  simp only[goodF,bA_,decide_eq_true_iff,List.all_eq_true,opF,effF]at h
  obtain⟨⟨g1,g2⟩,g3,g4,g5,g6⟩:=h
  have hc:(condsF t).all (propF t.Vars (-1))=true:=hcond.2 ⟨g5,fun o ho=>⟨(g6 o ho).2.1,fun e he=>((g6 o ho).2.2.2 e he).1⟩⟩
  have hl:largeF t=false:=by
   unfold largeF
   simp only[Bool.or_eq_false_iff,decide_eq_false_iff_not,List.any_eq_false,decide_eq_true_iff]
   refine⟨by omega,by omega,fun o ho=>by have:=(g6 o ho).1;omega,fun l hl=>?_⟩
   have:=propF_len' (List.all_eq_true.1 hc l hl)
   omega
  unfold checkF
  rw[if_neg (by rw[hl];simp),if_pos (by rw[List.all_eq_true];intro n hn;simpa using g3 n hn),if_pos (by rw[List.all_eq_true];intro o ho;have:=(g6 o ho).1;simp;omega),if_pos,if_pos]
  ·rw[List.all_eq_true];intro o ho;simp only[bA_,decide_eq_true_iff];exact⟨List.all_eq_true.2 (g6 o ho).2.2.1,(g6 o ho).1.2.2.2⟩
  ·rw[g4,hc,Bool.true_and,Bool.true_and,List.all_eq_true];intro o ho;rw[List.all_eq_true];intro e he;exact((g6 o ho).2.2.2 e he).2
 ·intro h
  unfold checkF at h
  split at h
  ·cases h
  ·rename_i hl
   obtain⟨l1,l2,l3,_⟩:=notlarge (by simpa using hl)
   split at h
   ·rename_i h1
    split at h
    ·rename_i h2
     split at h
     ·rename_i h3
      split at h
      ·rename_i h4
       simp only[bA_]at h3
       obtain⟨h3,h5,h6⟩:=h3
       obtain⟨h7,h8⟩:=hcond.1 h5
       simp only[goodF,bA_,decide_eq_true_iff]
       refine⟨⟨l1,l2⟩,h1,h3,h7,?_⟩
       rw[List.all_eq_true]at h2 h4 h6 ⊢
       intro o ho
       have a2:=h2 o ho
       have a4:=h4 o ho
       have a6:=h6 o ho
       rw[List.all_eq_true]at a6
       simp only[bA_,decide_eq_true_iff]at a2 a4
       show(decide _&&(_&&(_&&_)))=true
       rw[(h8 o ho).1,a4.1,decide_eq_true ⟨a2.1,a2.2,l3 o ho,a4.2⟩,Bool.true_and,Bool.true_and,Bool.true_and]
       rw[List.all_eq_true]
       intro e he
       show(propF _ _ _&&propF _ _ _)=true
       rw[(h8 o ho).2 e he,a6 e he];rfl
      ·cases h
     ·cases h
    ·cases h
   ·cases h
def Asc (l:List Fact):Prop:=l.Pairwise fun a b=>a.1<b.1
def LeF (a b:Fact):Prop:=a.1<b.1∨(a.1=b.1∧a.2≤b.2)
def LtF (a b:Fact):Prop:=a.1<b.1∨(a.1=b.1∧a.2<b.2)
def Nonneg (l:List Fact):Prop:=∀ x∈l,0≤x.1∧0≤x.2
theorem asc_inj {l:List Fact}(h:Asc l){a b:Fact}(ha:a∈l)(hb:b∈l)(e:a.1=b.1):a=b:=by
 induction l with
 | nil=>cases ha
 | cons z r ih =>
  obtain⟨h1,h2⟩:=List.pairwise_cons.1 h
  rcases List.mem_cons.1 ha with ea|ha'
  ·rcases List.mem_cons.1 hb with eb|hb'
   ·rw[ea,eb]
   ·have:=h1 b hb';rw[← ea]at this;omega
  ·rcases List.mem_cons.1 hb with eb|hb'
   ·have:=h1 a ha';rw[← eb]at this;omega
   ·exact ih h2 ha' hb'
theorem dd_mem (x:Fact)(l:List Fact):∀ p,(x∈dd p l→x∈l)∧(x∈l→x∈dd p l∨p=some x):=by
 induction l with
 | nil=>intro p;simp[dd]
 | cons y r ih =>
  intro p
  rw[dd]
  obtain⟨h1,h2⟩:=ih (some y)
  split
  ·rename_i hp
   refine⟨fun h=>by simp[h1 h],fun h=>?_⟩
   rcases List.mem_cons.1 h with rfl|h
   ·exact .inr hp
   ·rcases h2 h with h|h
    ·exact .inl h
    ·injection h with h;subst h;exact .inr hp
  ·refine⟨fun h=>?_,fun h=>?_⟩
   ·rcases List.mem_cons.1 h with rfl|h
    ·simp
    ·simp[h1 h]
   ·rcases List.mem_cons.1 h with rfl|h
    ·exact .inl (by simp)
    ·rcases h2 h with h|h
     ·exact .inl (by simp[h])
     ·injection h with h;subst h;exact .inl (by simp)
theorem compactF_mem (x:Fact)(l:List Fact):x∈compactF l↔x∈l:=by
 obtain⟨h1,h2⟩:=dd_mem x l none
 exact⟨h1,fun h=>(h2 h).elim id (fun h=>by cases h)⟩
theorem dd_lt (l:List Fact):∀ p,l.Pairwise LeF→(∀ y,p=some y→∀ x∈l,LeF y x)→(dd p l).Pairwise LtF∧∀ y,p=some y→∀ x∈dd p l,LtF y x:=by
 induction l with
 | nil=>intro p _ _;simp[dd]
 | cons z r ih =>
  intro p hs hp
  obtain⟨h1,h2⟩:=List.pairwise_cons.1 hs
  obtain⟨h3,h4⟩:=ih (some z) h2 (fun y hy x hx=>by injection hy with hy;subst hy;exact h1 x hx)
  rw[dd]
  split
  ·rename_i hz
   exact⟨h3,fun y hy x hx=>by rw[hz]at hy;injection hy with hy;subst hy;exact h4 z rfl x hx⟩
  ·rename_i hz
   refine⟨List.pairwise_cons.2 ⟨fun x hx=>h4 z rfl x hx,h3⟩,fun y hy x hx=>?_⟩
   have hyz:LtF y z:=by
    have hle:=hp y hy z (by simp)
    have hne:¬ y=z:=fun e=>hz (by rw[hy,e])
    unfold LeF at hle
    unfold LtF
    rcases hle with h|⟨h,h'⟩
    ·exact .inl h
    ·by_cases e:y.2=z.2
     ·exact absurd (Prod.ext h e) hne
     ·exact .inr ⟨h,by omega⟩
   rcases List.mem_cons.1 hx with rfl|hx
   ·exact hyz
   ·have:=h4 z rfl x hx
    unfold LtF at *
    omega
theorem sortF_le (l:List Fact):(sortF l).Pairwise LeF:=by
 have h:=List.pairwise_mergeSort (le:=fun x y=>!ltF y x) (by
  intro a b c h1 h2
  simp[ltF]at *
  omega) (by
  intro a b
  simp[ltF]
  omega) l
 refine List.Pairwise.imp ?_ h
 intro a b hab
 simp[ltF]at hab
 unfold LeF
 omega
theorem sortF_mem (x:Fact)(l:List Fact):x∈sortF l↔x∈l:=(List.mergeSort_perm l _).mem_iff
def tidyF (l:List Fact):List Fact:=compactF (sortF l)
theorem tidyF_mem (x:Fact)(l:List Fact):x∈tidyF l↔x∈l:=by rw[tidyF,compactF_mem,sortF_mem]
theorem tidyF_lt (l:List Fact):(tidyF l).Pairwise LtF:=(dd_lt (sortF l) none (sortF_le l) (fun y hy=>by cases hy)).1
theorem dd_len : ∀ (l:List Fact)(p:Option Fact),(dd p l).length≤l.length
 | [],_=>Nat.le_refl _
 | y :: r,p=>by
  rw[dd]
  have:=dd_len r (some y)
  split
  ·simp;omega
  ·simp;omega
theorem tidyF_len (l:List Fact):(tidyF l).length≤l.length:=by
 have:=dd_len (sortF l) none
 rw[sortF_length]at this
 exact this
def vF : Int→List Fact→Bool
 | _,[]=>true
 | last,y :: r=>decide (last<y.1∧0≤y.2)&&vF y.1 r
theorem valid_loop (l:List Fact)(hs:Sh l):∀ (r:List Fact)(n:Nat)(last:Int),l.drop n=r→n≤l.length→-1≤last→(n=0→last=-1)→(∀ m,n=m+1→∃ x,l[m]?=some x∧x.1=last)→Rg (M_p_valid_L1_B l) (M_p_valid_L1_E l) r n ()=some (vF last r)
 | [],_,_,_,_,_,_,_=>rfl
 | y :: r,n,last,hd,hn,hl,h0,hp=>by
  rw[Rg,vF]
  obtain⟨hy,hd',hlt⟩:=drop_cons hd
  have hih:0≤y.1→Rg (M_p_valid_L1_B l) (M_p_valid_L1_E l) r ((n:Int)+1) ()=some (vF y.1 r):=fun h=>valid_loop l hs r (n+1) y.1 hd' hlt (by omega) (by omega) (fun m hm=>⟨y,by rw[show m=n by omega];exact hy,rfl⟩)
  simp only[M_p_valid_L1_B,ixv,sel_dec]
  by_cases h1:y.1<0
  ·rw[if_pos h1,decide_eq_false (by omega)];rfl
  ·rw[if_neg h1]
   by_cases h3:y.2<0
   ·rw[if_pos h3,decide_eq_false (by omega)];rfl
   ·rw[if_neg h3]
    cases n with
    | zero =>
     have:=h0 rfl
     rw[if_neg (by omega),decide_eq_true (by omega)]
     exact hih (by omega)
    | succ m =>
     obtain⟨x,hx,hxl⟩:=hp m rfl
     rw[if_pos (by omega),w64 (by omega) (by have:=hs;unfold Sh at this;omega),show(((m+1:Nat):Int)-1)=(m:Int)by omega,ix_at hx]
     by_cases h5:x.1≥y.1
     ·rw[if_pos h5,decide_eq_false (by omega)];rfl
     ·rw[if_neg h5,decide_eq_true (by omega)]
      exact hih (by omega)
theorem valid_eq (l:List Fact)(hl:Sh l):M_p_valid l=some (vF (-1) l):=by
 rw[M_p_valid,M_p_valid_L1_eq _ hl.lt]
 exact valid_loop l hl l 0 (-1) rfl (Nat.zero_le _) (by omega) (fun _=>rfl) (fun m hm=>by omega)
theorem vF_iff : ∀ (l:List Fact)(last:Int),vF last l=true↔(∀ x∈l,last<x.1∧0≤x.2)∧Asc l
 | [],last=>by simp[vF,Asc]
 | y :: r,last=>by
  rw[vF,bA_,decide_eq_true_iff,vF_iff r y.1]
  unfold Asc
  rw[List.pairwise_cons]
  constructor
  ·rintro⟨h1,h2,h3⟩
   refine⟨fun x hx=>?_,fun x hx=>(h2 x hx).1,h3⟩
   rcases List.mem_cons.1 hx with rfl|hx
   ·exact h1
   ·have:=h2 x hx;omega
  ·rintro⟨h1,h2,h3⟩
   exact⟨h1 y (by simp),fun x hx=>⟨h2 x hx,(h1 x (by simp[hx])).2⟩,h3⟩
theorem vF_iff' (l:List Fact):vF (-1) l=true↔Nonneg l∧Asc l:=by
 rw[vF_iff]
 constructor
 ·rintro⟨h1,h2⟩
  exact⟨fun x hx=>⟨by have:=(h1 x hx).1;omega,(h1 x hx).2⟩,h2⟩
 ·rintro⟨h1,h2⟩
  exact⟨fun x hx=>⟨by have:=(h1 x hx).1;omega,(h1 x hx).2⟩,h2⟩
theorem propF_vF (vars:List Int):∀ (l:List Fact)(last:Int),propF vars last l=true→vF last l=true
 | [],_,_=>rfl
 | y :: r,last,h=>by
  rw[propF,bA_,decide_eq_true_iff]at h
  rw[vF,propF_vF vars r y.1 h.2,decide_eq_true ⟨h.1.1,h.1.2.2.1⟩]
  rfl
theorem propF_iff (vars:List Int):∀ (l:List Fact)(last:Int),propF vars last l=true↔vF last l=true∧∀ x∈l,x.1<vars.length∧x.2<vars.getD x.1.toNat 0
 | [],last=>by simp[propF,vF]
 | y :: r,last=>by
  rw[propF,vF,bA_,bA_,decide_eq_true_iff,decide_eq_true_iff,propF_iff vars r y.1]
  constructor
  ·rintro⟨⟨a,b,c,d⟩,e,f⟩
   refine⟨⟨⟨a,c⟩,e⟩,fun x hx=>?_⟩
   rcases List.mem_cons.1 hx with rfl|hx
   ·exact⟨b,d⟩
   ·exact f x hx
  ·rintro⟨⟨⟨a,c⟩,e⟩,f⟩
   exact⟨⟨a,(f y (by simp)).1,c,(f y (by simp)).2⟩,e,fun x hx=>f x (by simp[hx])⟩
def Compat (l:List Fact):Prop:=∀ x∈l,∀ y∈l,x.1=y.1→x.2=y.2
theorem asc_compat {l:List Fact}(h:Asc l):Compat l:=fun x hx y hy e=>by rw[asc_inj h hx hy e]
theorem tidyF_asc {l:List Fact}:Asc (tidyF l)↔Compat l:=by
 constructor
 ·intro h x hx y hy e
  exact asc_compat h x ((tidyF_mem x l).2 hx) y ((tidyF_mem y l).2 hy) e
 ·intro h
  have h2:∀ x∈tidyF l,x∈l:=fun x hx=>(tidyF_mem x l).1 hx
  have h1:=tidyF_lt l
  generalize tidyF l=t at h1 h2
  induction t with
  | nil=>exact List.Pairwise.nil
  | cons z r ih =>
   obtain⟨a,b⟩:=List.pairwise_cons.1 h1
   refine List.pairwise_cons.2 ⟨fun x hx=>?_,ih b (fun x hx=>h2 x (by simp[hx]))⟩
   have h3:=a x hx
   unfold LtF at h3
   rcases h3 with h3|⟨h3,h4⟩
   ·exact h3
   ·have:=h z (h2 z (by simp)) x (h2 x (by simp[hx])) h3
    omega
theorem tidyF_valid {l:List Fact}(hn:Nonneg l):vF (-1) (tidyF l)=true↔Compat l:=by
 rw[vF_iff',tidyF_asc]
 exact⟨fun h=>h.2,fun h=>⟨fun x hx=>hn x ((tidyF_mem x l).1 hx),h⟩⟩
theorem make_eq (l:List Fact)(hl:l.length*16≤140737488355328)(hn:Nonneg l):M_p_Make l=some (if vF (-1) (tidyF l)=true then(tidyF l,Er.nil)else([],Er.no 2)):=by
 have hs:Sh l:=by unfold Sh;omega
 have ht:=tidyF_len l
 rw[M_p_Make,M_p_Make_L1_eq _ hs.lt,rg_all (p:=fun _=>true) (c:=none) (fun y hy i rc=>by
  obtain⟨h1,h2⟩:=hn y hy
  simp only[M_p_Make_L1_B,ixv,sel_dec]
  rw[if_neg (by omega),if_neg (by omega)];simp),if_pos (by simp)]
 rw[M_p_Make_L1_E,ob1_some,osum_inl,M_cloneF,grd_t hl,ob1_some,M_sortF,grd_t (by omega),ob1_some,grd_t (sortF_length l),M_compactF,grd_t (by rw[sortF_length];exact hl),ob1_some]
 have:compactF (sortF l)=tidyF l:=rfl
 rw[this,grd_t (by omega),valid_eq _ (by unfold Sh;omega),ob1_some]
 cases vF (-1) (tidyF l) <;> rfl
def joinO (a b:List Fact):Option (List Fact):=if vF (-1) (tidyF (a++b))=true then some (tidyF (a++b))else none
def joinR (a b:List Fact):List Fact×Bool:=match joinO a b with|some p=>(p,true)|none=>([],false)
theorem join_eq (a b:List Fact)(hl:(a.length+b.length)*16≤140737488355328)(ha:vF (-1) a=true)(hb:vF (-1) b=true):M_p_Join a b=some (joinR a b):=by
 have h1:=(vF_iff' a).1 ha
 have h2:=(vF_iff' b).1 hb
 have hlen:(a++b).length=a.length+b.length:=lA_
 rw[M_p_Join,valid_eq _ (by unfold Sh;omega),ha,ob1_some,valid_eq _ (by unfold Sh;omega),hb]
 show ob1 (M_cloneF a) _=_
 rw[M_cloneF,grd_t (by omega),ob1_some,grd_t (by omega),make_eq (a++b) (by omega) (fun x hx=>by
  rcases List.mem_append.1 hx with hx|hx
  ·exact h1.1 x hx
  ·exact h2.1 x hx)]
 unfold joinR joinO
 split
 ·rw[ob2_some,grd_t (by omega)];rfl
 ·rw[ob2_some,grd_t (by omega)];rfl
theorem joinO_some {a b p:List Fact}(h:joinO a b=some p):vF (-1) p=true∧∀ x,x∈p↔x∈a∨x∈b:=by
 unfold joinO at h
 split at h
 ·rename_i h1
  injection h with h
  subst h
  exact⟨h1,fun x=>by rw[tidyF_mem,List.mem_append]⟩
 ·cases h
theorem joinO_none {a b:List Fact}(ha:vF (-1) a=true)(hb:vF (-1) b=true)(h:joinO a b=none):¬ Compat (a++b):=by
 intro hc
 unfold joinO at h
 rw[if_pos ((tidyF_valid (fun x hx=>by
  rcases List.mem_append.1 hx with hx|hx
  ·exact((vF_iff' a).1 ha).1 x hx
  ·exact((vF_iff' b).1 hb).1 x hx)).2 hc)]at h
 cases h
theorem cmp_int_eq (a b:Int):M_cmp_Compare_int a b=some (Lib.compareInt a b):=by
 have e:∀ x:Int,M_cmp_isNaN_int x=some false:=fun x=>by simp[M_cmp_isNaN_int]
 rw[M_cmp_Compare_int,e,e]
 simp only[ob1_some,sel_ff,sel_dec]
 rcases compareInt_cases a b with⟨h,hc⟩|⟨h,hc⟩|⟨h,hc⟩ <;> rw[hc]
 ·rw[if_pos h]
 ·rw[if_neg (by omega),if_neg (by omega)]
 ·rw[if_neg (by omega),if_pos h]
theorem or2_eq (a b:Int):M_cmp_Or_int [a,b]=some (if a≠0 then a else b):=by
 rw[M_cmp_Or_int,M_cmp_Or_int_L1_eq [a,b] (by simp)]
 simp only[Rg,M_cmp_Or_int_L1_B,M_cmp_Or_int_L1_E,ixv]
 by_cases ha:a=0
 ·subst ha
  rw[show((0:Int) != 0)=false from rfl,sel_ff,if_neg (by simp)]
  by_cases hb:b=0
  ·subst hb;rfl
  ·rw[show(b != 0)=true from by simp[hb],sel_tt]
 ·rw[show(a != 0)=true from by simp[ha],sel_tt,if_pos ha]
theorem rcmp1_eq (x y:Fact):M_g_compare_1 x y=some (cmpF x y):=by
 rw[M_g_compare_1,cmp_int_eq,ob1_some,cmp_int_eq,ob1_some,or2_eq,ob1_some]
 rfl
theorem cfunc_loop (a b:List Fact):∀ (r:List Fact)(n:Nat),a.drop n=r→n≤a.length→n≤b.length →
  ob1 (Rg (M_s_CompareFunc_Fact_L1_B a b M_g_compare_1) (M_s_CompareFunc_Fact_L1_E a b M_g_compare_1) r n ())
   (osum (fun _=>sel (decide (((a.map cF).length:Int)<((b.map cF).length:Int))) (some (-1)) (some 0)) (fun r13=>some r13))=some (cmpLF r (b.drop n)):=by
 intro r
 induction r with
 | nil =>
  intro n h hn hm
  have hn':n=a.length:=by have:=congrArg List.length h;simp at this;omega
  subst hn'
  rw[Rg,M_s_CompareFunc_Fact_L1_E,ob1_some,osum_inl,sel_dec,lM_,lM_]
  by_cases hlt:a.length<b.length
  ·obtain⟨y,hy,hd⟩:=drop_at hlt
   rw[if_pos (by omega),hd,cmpLF]
  ·rw[if_neg (by omega),show b.drop a.length=[]from List.drop_eq_nil_of_le (by omega),cmpLF]
 | cons y r ih =>
  intro n h hn hm
  obtain⟨hy,hd,hlt⟩:=drop_cons h
  rw[Rg,M_s_CompareFunc_Fact_L1_B,ixv]
  by_cases hge:n<b.length
  ·obtain⟨z,hz,hdz⟩:=drop_at hge
   rw[sel_dec,if_neg (by rw[lM_];omega),ix_at hz,rcmp1_eq,ob1_some,hdz,cmpLF]
   by_cases hc:cmpF y z=0
   ·rw[show(cmpF y z != 0)=false from by simp[hc],sel_ff,if_neg (by simp[hc])]
    exact ih (n+1) hd hlt hge
   ·rw[show(cmpF y z != 0)=true from by simp[hc],sel_tt,ob1_some,osum_inr,if_pos hc]
  ·rw[sel_dec,lM_,if_pos (by omega),ob1_some,osum_inr,show b.drop n=[]from List.drop_eq_nil_of_le (by omega),cmpLF]
theorem compare_eq (a b:List Fact)(ha:Sh a):M_g_compare a b=some (cmpLF a b):=by
 have h:=cfunc_loop a b a 0 rfl (Nat.zero_le _) (Nat.zero_le _)
 rw[M_g_compare,M_s_CompareFunc_Fact,M_s_CompareFunc_Fact_L1_eq a b _ ha.lt]
 rw[List.drop_zero]at h
 exact(congrArg (fun o=>ob1 o (fun z1=>some z1)) h)
def SortedL (l:List (List Fact)):Prop:=l.Pairwise fun a b=>cmpLF a b<0
theorem cmpLF_lt_gt {a b:List Fact}:cmpLF a b<0↔0<cmpLF b a:=by rw[cmpLF_anti a b];omega
theorem mid_eq {a b:Nat}(h:a+b<4611686018427387904):IntKind.i64.wrap (Int.fdiv (IntKind.u64.wrap (IntKind.i64.wrap ((a:Int)+b))) 2)=(((a+b) / 2:Nat):Int):=by
 rw[w64 (z:=(a:Int)+b) (by omega) (by omega)]
 have e:IntKind.u64.wrap ((a:Int)+b)=(a:Int)+b:=by
  show((a:Int)+b) % _=_
  exact Int.emod_eq_of_lt (by omega) (by show _<(18446744073709551616:Int);omega)
 rw[e,Int.fdiv_eq_ediv_of_nonneg _ (by decide),w64 (by omega) (by omega)]
 omega
theorem bs_loop (l:List (List Fact))(z:List Fact)(hl:l.length<1000000)(hsh:∀ x∈l,Sh x)(hs:SortedL l) :
  ∀ (k:Nat) (lo hi:Nat),lo≤hi→hi≤l.length→hi-lo<2 ^ k→(∀ (j:Nat) (y:List Fact),j<lo→l[j]?=some y→cmpLF y z<0)→(∀ (j:Nat) (y:List Fact),hi≤j→l[j]?=some y→¬ cmpLF y z<0)→∀ m:Nat,
  ∃ p:Nat,M_s_BinarySearchFunc_Fact_L1 l z M_g_compare (k+1+m) lo hi=some (p:Int)∧p≤l.length∧(∀ (j:Nat) (y:List Fact),j<p→l[j]?=some y→cmpLF y z<0)∧(∀ (j:Nat) (y:List Fact),p≤j→l[j]?=some y→¬ cmpLF y z<0):=by
 intro k
 induction k with
 | zero =>
  intro lo hi h1 h2 h3 h4 h5 m
  obtain rfl:lo=hi:=by omega
  refine⟨lo,?_,h2,h4,h5⟩
  rw[show 0+1+m=m+1 from by omega,M_s_BinarySearchFunc_Fact_L1,decide_ge,sel_ff]
 | succ k ih =>
  intro lo hi h1 h2 h3 h4 h5 m
  rw[show k+1+1+m=(k+1+m)+1 from by omega,M_s_BinarySearchFunc_Fact_L1]
  by_cases hlt:lo<hi
  ·obtain⟨y,hy,-⟩:=drop_at (l:=l) (n:=(lo+hi) / 2) (by omega)
   rw[decide_lt hlt,sel_tt,mid_eq (by omega),ix_at hy,compare_eq y z (hsh y (mG_ hy)),ob1_some,sel_dec]
   have hp:2 ^ (k+1)=2*2 ^ k:=by rw[Nat.pow_succ];omega
   by_cases hc:cmpLF y z<0
   ·rw[if_pos hc,w64s (by omega)]
    refine ih _ _ (by omega) h2 (by omega) (fun j u hj hu=>?_) h5 m
    rcases Nat.lt_or_eq_of_le (Nat.lt_succ_iff.1 hj)with hj'|rfl
    ·obtain⟨hj1,hj2⟩:=gS_.1 hu
     obtain⟨hy1,hy2⟩:=gS_.1 hy
     have:=List.pairwise_iff_getElem.1 hs j _ hj1 hy1 hj'
     rw[hj2,hy2]at this
     exact cmpLF_trans this hc
    ·rw[hy]at hu;cases hu;exact hc
   ·rw[if_neg hc]
    refine ih _ _ (by omega) (by omega) (by omega) h4 (fun j u hj hu hn=>?_) m
    rcases Nat.lt_or_eq_of_le hj with hj'|rfl
    ·obtain⟨hj1,hj2⟩:=gS_.1 hu
     obtain⟨hy1,hy2⟩:=gS_.1 hy
     have:=List.pairwise_iff_getElem.1 hs _ j hy1 hj1 hj'
     rw[hj2,hy2]at this
     exact hc (cmpLF_trans this hn)
    ·rw[hy]at hu;cases hu;exact hc hn
  ·obtain rfl:lo=hi:=by omega
   exact⟨lo,by rw[decide_ge,sel_ff],h2,h4,h5⟩
theorem bsearch_eq (l:List (List Fact))(z:List Fact)(g:Nat)(hg:21≤g)(hl:l.length<1000000)(hsh:∀ x∈l,Sh x)(hs:SortedL l) :
  ∃ (p:Nat) (f:Bool),M_s_BinarySearchFunc_Fact g l z M_g_compare=some ((p:Int),f)∧p≤l.length∧(f=true↔z∈l)∧(f=false→SortedL (l.take p++z :: l.drop p)):=by
 obtain⟨p,hp,hpl,h1,h2⟩:=bs_loop l z hl hsh hs 20 0 l.length (Nat.zero_le _) (Nat.le_refl _) (by rw[Nat.sub_zero];exact Nat.lt_trans hl (by decide)) (fun j y h=>by omega) (fun j y hj hy=>by rw[List.getElem?_eq_none hj]at hy;cases hy) (g-21)
 rw[show 20+1+(g-21)=g from by omega]at hp
 have hlow:∀ y∈l.take p,cmpLF y z<0:=fun y hy=>by
  obtain⟨j,hj⟩:=List.mem_iff_getElem?.1 hy
  rw[List.getElem?_take]at hj
  split at hj
  ·exact h1 j y ‹_› hj
  ·cases hj
 have hhigh:∀ y∈l.drop p,¬ cmpLF y z<0:=fun y hy=>by
  obtain⟨j,hj⟩:=List.mem_iff_getElem?.1 hy
  rw[List.getElem?_drop]at hj
  exact h2 _ y (by omega) hj
 have hsplit:l.take p++l.drop p=l:=List.take_append_drop _ _
 have hpw:(l.take p++l.drop p).Pairwise fun a b=>cmpLF a b<0:=by rw[hsplit];exact hs
 obtain⟨q1,q2,q3⟩:=List.pairwise_append.1 hpw
 have hmem:z∈l↔z∈l.drop p:=by
  constructor
  ·intro h
   rw[← hsplit]at h
   rcases List.mem_append.1 h with h|h
   ·have:=hlow z h;rw[cmpLF_zero.2 rfl]at this;omega
   ·exact h
  ·exact List.mem_of_mem_drop
 have hput:z∉l→SortedL (l.take p++z :: l.drop p):=fun hn=>by
  refine List.pairwise_append.2 ⟨q1,List.pairwise_cons.2 ⟨fun y hy=>?_,q2⟩,fun a ha b hb=>?_⟩
  ·have h3:=hhigh y hy
   have h4:cmpLF y z≠0:=fun e=>hn (hmem.2 (by rw[← cmpLF_zero.1 e];exact hy))
   rw[cmpLF_lt_gt];omega
  ·rcases List.mem_cons.1 hb with rfl|hb
   ·exact hlow a ha
   ·exact q3 a ha b hb
 rw[M_s_BinarySearchFunc_Fact,lM_]
 have hp':M_s_BinarySearchFunc_Fact_L1 l z M_g_compare g 0 (l.length:Int)=some (p:Int):=hp
 rw[hp',ob1_some]
 by_cases hlt:p<l.length
 ·obtain⟨y,hy,hd⟩:=drop_at hlt
  rw[decide_lt hlt,sel_tt,ix_at hy,compare_eq y z (hsh y (mG_ hy)),ob1_some]
  have hiff:(cmpLF y z == 0)=true↔z∈l:=by
   rw[beq_iff_eq,cmpLF_zero,hmem,hd]
   constructor
   ·rintro rfl;simp
   ·intro h
    rcases List.mem_cons.1 h with e|h
    ·exact e.symm
    ·rw[hd]at q2
     have:=(List.pairwise_cons.1 q2).1 z h
     exact absurd this (hhigh y (by rw[hd];simp))
  refine⟨p,_,rfl,hpl,hiff,fun hf=>hput fun hz=>?_⟩
  rw[hiff.2 hz]at hf;cases hf
 ·obtain rfl:p=l.length:=by omega
  have hn:z∉l:=fun h=>by have:=hmem.1 h;rw[List.drop_length]at this;cases this
  exact⟨l.length,false,by rw[decide_ge,sel_ff],hpl,⟨(fun h=>nomatch h),(fun h=>absurd h hn)⟩,fun _=>hput hn⟩
abbrev PropL (vars:List Int)(l:List (List Fact)):Prop:=∀ x∈l,propF vars (-1) x=true
def addN {α:Type} [DecidableEq α](out:List α)(z:α):List α:=if z∈out then out else out++[z]
theorem addN_mem {α:Type} [DecidableEq α](out:List α)(z x:α):x∈addN out z↔x∈out∨x=z:=by
 unfold addN;split
 ·constructor
  ·exact Or.inl
  ·rintro(h|rfl) <;> assumption
 ·simp
theorem addN_nodup {α:Type} [DecidableEq α]{out:List α}(h:out.Nodup)(z:α):(addN out z).Nodup:=by
 unfold addN;split
 ·exact h
 ·rename_i hz
  refine List.nodup_append.2 ⟨h,by simp,fun a ha b hb=>?_⟩
  rw[mI_]at hb;subst hb
  rintro rfl;exact hz ha
theorem addN_len {α:Type} [DecidableEq α](out:List α)(z:α):out.length≤(addN out z).length:=by
 unfold addN;split
 ·exact Nat.le_refl _
 ·simp
theorem propF_vF' {vars:List Int}{l:List Fact}(h:propF vars (-1) l=true):vF (-1) l=true:=propF_vF vars l (-1) h
theorem joinO_prop {vars:List Int}{a b p:List Fact}(ha:propF vars (-1) a=true)(hb:propF vars (-1) b=true)(h:joinO a b=some p):propF vars (-1) p=true:=by
 obtain⟨hv,hm⟩:=joinO_some h
 refine(propF_iff vars p (-1)).2 ⟨hv,fun x hx=>?_⟩
 rcases(hm x).1 hx with h|h
 ·exact((propF_iff vars a (-1)).1 ha).2 x h
 ·exact((propF_iff vars b (-1)).1 hb).2 x h
def joinX (x:List Fact):List (List Fact)→List (List Fact)→List (List Fact)
 | [],out=>out
 | y :: r,out=>joinX x r (match joinO x y with|some z=>addN out z|none=>out)
def joinXX : List (List Fact)→List (List Fact)→List (List Fact)→List (List Fact)
 | [],_,out=>out
 | x :: r,b,out=>joinXX r b (joinX x b out)
def joinLL (a b:List (List Fact)):List (List Fact):=joinXX a b []
theorem joinX_len (x:List Fact):∀ (b out:List (List Fact)),out.length≤(joinX x b out).length
 | [],_=>Nat.le_refl _
 | y :: r,out=>by
  rw[joinX]
  refine Nat.le_trans ?_ (joinX_len x r _)
  split
  ·exact addN_len _ _
  ·exact Nat.le_refl _
theorem joinXX_len : ∀ (a b out:List (List Fact)),out.length≤(joinXX a b out).length
 | [],_,_=>Nat.le_refl _
 | x :: r,b,out=>Nat.le_trans (joinX_len x b out) (joinXX_len r b _)
theorem joinX_nodup (x:List Fact):∀ (b out:List (List Fact)),out.Nodup→(joinX x b out).Nodup
 | [],_,h=>h
 | y :: r,out,h=>by
  rw[joinX]
  refine joinX_nodup x r _ ?_
  split
  ·exact addN_nodup h _
  ·exact h
theorem joinXX_nodup : ∀ (a b out:List (List Fact)),out.Nodup→(joinXX a b out).Nodup
 | [],_,_,h=>h
 | x :: r,b,out,h=>joinXX_nodup r b _ (joinX_nodup x b out h)
theorem joinLL_nodup (a b:List (List Fact)):(joinLL a b).Nodup:=joinXX_nodup a b [] List.nodup_nil
theorem joinX_mem (x:List Fact)(z:List Fact):∀ (b out:List (List Fact)),z∈joinX x b out↔z∈out∨∃ y∈b,joinO x y=some z
 | [],out=>by simp[joinX]
 | y :: r,out=>by
  rw[joinX,joinX_mem x z r]
  cases h:joinO x y with
  | none=>simp[h]
  | some w =>
   simp only[addN_mem,List.mem_cons]
   constructor
   ·rintro((h'|rfl)|⟨u,hu,h'⟩)
    ·exact Or.inl h'
    ·exact Or.inr ⟨y,Or.inl rfl,h⟩
    ·exact Or.inr ⟨u,Or.inr hu,h'⟩
   ·rintro(h'|⟨u,rfl|hu,h'⟩)
    ·exact Or.inl (Or.inl h')
    ·rw[h]at h';cases h';exact Or.inl (Or.inr rfl)
    ·exact Or.inr ⟨u,hu,h'⟩
theorem joinXX_mem (z:List Fact):∀ (a b out:List (List Fact)),z∈joinXX a b out↔z∈out∨∃ x∈a,∃ y∈b,joinO x y=some z
 | [],b,out=>by simp[joinXX]
 | x :: r,b,out=>by
  rw[joinXX,joinXX_mem z r,joinX_mem,or_assoc]
  simp only[List.mem_cons,exists_eq_or_imp]
theorem joinLL_mem (z:List Fact)(a b:List (List Fact)):z∈joinLL a b↔∃ x∈a,∃ y∈b,joinO x y=some z:=by
 rw[joinLL,joinXX_mem];simp
theorem joinLL_prop {vars:List Int}{a b:List (List Fact)}(ha:PropL vars a)(hb:PropL vars b):PropL vars (joinLL a b):=fun z hz=>by
 obtain⟨x,hx,y,hy,h⟩:=(joinLL_mem z a b).1 hz
 exact joinO_prop (ha x hx) (hb y hy) h
structure JInv (vars:List Int)(s o:List (List Fact)):Prop where
 asc:SortedL s
 len:s.length=o.length
 mem:∀ z,z∈s↔z∈o
 prop:PropL vars o
theorem prop_len {vars:List Int}(hv:vars.length≤64){x:List Fact}(h:propF vars (-1) x=true):x.length≤64:=Nat.le_trans (propF_len' h) hv
theorem prop_sh {vars:List Int}(hv:vars.length≤64){x:List Fact}(h:propF vars (-1) x=true):Sh x:=Nat.le_trans (prop_len hv h) (by decide)
theorem join1 (vars:List Int)(hv:vars.length≤64)(g:Nat)(hg:21≤g)(b:List (List Fact))(x:List Fact)(hx:propF vars (-1) x=true) :
  ∀ (r:List (List Fact)) (i:Int) (s o:List (List Fact)),PropL vars r→JInv vars s o→o.length≤1024 →
  ∃ res,Rg (M_g_join_L1_B b g x) (M_g_join_L1_E b g x) r i (s,o)=some res ∧
   ((joinX x r o).length≤1024→∃ s',res=.inl (s',joinX x r o)∧JInv vars s' (joinX x r o))∧(1024<(joinX x r o).length→res=.inr ([],Er.no 5))
 | [],i,s,o,hr,hi,ho=>⟨_,rfl,fun _=>⟨s,rfl,hi⟩,fun h=>absurd h (by rw[joinX];omega)⟩
 | y :: r,i,s,o,hr,hi,ho=>by
  have hy:=hr y (mS_ ..)
  have hr':PropL vars r:=fun u hu=>hr u (mC_ _ hu)
  have l1:=prop_len hv hx
  have l2:=prop_len hv hy
  rw[Rg,M_g_join_L1_B,ixv,join_eq x y (by omega) (propF_vF' hx) (propF_vF' hy)]
  cases h:joinO x y with
  | none =>
   rw[show joinX x (y :: r) o=joinX x r o from by rw[joinX,h],joinR,h,ob2_some,Bool.not_false,sel_tt]
   exact join1 vars hv g hg b x hx r _ s o hr' hi ho
  | some z =>
   have hz:=joinO_prop hx hy h
   rw[show joinX x (y :: r) o=joinX x r (addN o z)from by rw[joinX,h],joinR,h,ob2_some,Bool.not_true,sel_ff,grd_t (by rw[hi.len];omega)]
   obtain⟨p,f,he,hp,hf,hput⟩:=bsearch_eq s z g hg (by rw[hi.len];omega) (fun u hu=>prop_sh hv (hi.prop u ((hi.mem u).1 hu))) hi.asc
   rw[he,ob2_some]
   cases f with
   | true =>
    rw[sel_tt,addN,if_pos ((hi.mem z).1 (hf.1 rfl))]
    exact join1 vars hv g hg b x hx r _ s o hr' hi ho
   | false =>
    have hno:z∉o:=fun hz=>by have:=hf.2 ((hi.mem z).2 hz);cases this
    rw[sel_ff,addN,if_neg hno]
    by_cases hm:o.length=1024
    ·rw[show(((o.length:Nat):Int) == 1024)=true from by rw[hm];rfl,sel_tt]
     have:=joinX_len x r (o++[z])
     rw[lA_,List.length_singleton,hm]at this
     exact⟨_,rfl,fun h=>absurd h (by omega),fun _=>rfl⟩
    ·rw[show(((o.length:Nat):Int) == 1024)=false from by simp;omega,sel_ff,M_insertL,grd_t (by omega),grd_t (by omega),grd_t (by rw[hi.len];omega),ob1_some,grd_t (by omega),Int.toNat_natCast]
     refine join1 vars hv g hg b x hx r _ _ (o++[z]) hr' ⟨hput rfl,?_,fun u=>?_,fun u hu=>?_⟩ (by rw[lA_,List.length_singleton];omega)
     ·have:=hi.len
      simp only[lA_,lC_,List.length_take,List.length_drop,lN_];omega
     ·rw[List.mem_append,List.mem_cons,List.mem_append,mI_,← hi.mem u]
      conv=>rhs;rw[← List.take_append_drop p s,List.mem_append]
      constructor
      ·rintro(h|h|h)
       ·exact Or.inl (Or.inl h)
       ·exact Or.inr h
       ·exact Or.inl (Or.inr h)
      ·rintro((h|h)|h)
       ·exact Or.inl h
       ·exact Or.inr (Or.inr h)
       ·exact Or.inr (Or.inl h)
     ·rcases List.mem_append.1 hu with h|h
      ·exact hi.prop u h
      ·rw[mI_.1 h];exact hz
def capR (l:List (List Fact)):List (List Fact)×Er:=if l.length≤1024 then(l,Er.nil)else([],Er.no 5)
theorem join2 (vars:List Int)(hv:vars.length≤64)(g:Nat)(hg:21≤g)(a b:List (List Fact))(hb:PropL vars b)(hbl:Sh b) :
  ∀ (r:List (List Fact)) (i:Int) (s o:List (List Fact)),PropL vars r→JInv vars s o→o.length≤1024 →
  Rg (M_g_join_L2_B a b g) (M_g_join_L2_E a b g) r i (s,o)=some (capR (joinXX r b o))
 | [],i,s,o,hr,hi,ho=>by rw[Rg,M_g_join_L2_E,joinXX,capR,if_pos ho];exact grd_t (by omega)
 | x :: r,i,s,o,hr,hi,ho=>by
  have hx:=hr x (mS_ ..)
  have hr':PropL vars r:=fun u hu=>hr u (mC_ _ hu)
  rw[Rg,M_g_join_L2_B,ixv,M_g_join_L1_eq b g x s o hbl.lt,joinXX]
  obtain⟨res,he,h1,h2⟩:=join1 vars hv g hg b x hx b 0 s o hb hi ho
  rw[he,ob1_some]
  by_cases h:(joinX x b o).length≤1024
  ·obtain⟨s',rfl,hi'⟩:=h1 h
   rw[osum_inl]
   exact join2 vars hv g hg a b hb hbl r _ s' _ hr' hi' h
  ·rw[h2 (by omega),osum_inr,capR,if_neg (by have:=joinXX_len r b (joinX x b o);omega)]
theorem rjoin_eq (vars:List Int)(hv:vars.length≤64)(g:Nat)(hg:21≤g)(a b:List (List Fact))(ha:PropL vars a)(hb:PropL vars b)(hal:Sh a)(hbl:Sh b) :
  M_g_join g a b=some (capR (joinLL a b)):=by
 rw[M_g_join,M_g_join_L2_eq a b g [] [] hal.lt]
 exact join2 vars hv g hg a b hb hbl a 0 [] [] ha ⟨List.Pairwise.nil,rfl,fun _=>Iff.rfl,fun _ h=>nomatch h⟩ (by decide)
def silOne (f:Fact):Nat→Int→List (List Fact)
 | 0,_=>[]
 | m+1,i=>(if i≠f.2 then[[(f.1,i)]]else[])++silOne f m (i+1)
def silF (vars:List Int)(w:List Fact):List (List Fact):=w.flatMap fun f=>silOne f (vars.getD f.1.toNat 0).toNat 0
theorem silOne_len (f:Fact):∀ (m:Nat)(i:Int),(silOne f m i).length≤m
 | 0,_=>Nat.le_refl _
 | m+1,i=>by
  rw[silOne,lA_]
  have:=silOne_len f m (i+1)
  split <;> simp <;> omega
theorem silOne_mem (f:Fact)(z:List Fact):∀ (m:Nat)(i:Int),z∈silOne f m i↔∃ y:Int,i≤y∧y<i+m∧y≠f.2∧z=[(f.1,y)]
 | 0,i=>by rw[silOne];constructor;exact(nofun);rintro⟨y,h1,h2,-⟩;omega
 | m+1,i=>by
  rw[silOne,List.mem_append,silOne_mem f z m]
  constructor
  ·rintro(h|⟨y,h1,h2,h3⟩)
   ·split at h
    ·exact⟨i,Int.le_refl _,by omega,‹_›,mI_.1 h⟩
    ·cases h
   ·exact⟨y,by omega,by omega,h3⟩
  ·rintro⟨y,h1,h2,h3,h4⟩
   rcases Int.lt_or_eq_of_le h1 with h|rfl
   ·exact Or.inr ⟨y,by omega,by omega,h3,h4⟩
   ·left;rw[if_pos h3,h4];exact mI_.2 rfl
theorem silF_mem {vars:List Int}{w:List Fact}{z:List Fact}:z∈silF vars w↔∃ f∈w,∃ y:Int,0≤y∧y<(vars.getD f.1.toNat 0).toNat∧y≠f.2∧z=[(f.1,y)]:=by
 rw[silF,List.mem_flatMap]
 constructor
 ·rintro⟨f,hf,h⟩
  obtain⟨y,h1,h2,h3⟩:=(silOne_mem f z _ _).1 h
  exact⟨f,hf,y,h1,by omega,h3⟩
 ·rintro⟨f,hf,y,h1,h2,h3⟩
  exact⟨f,hf,(silOne_mem f z _ _).2 ⟨y,h1,by omega,h3⟩⟩
theorem silF_prop {vars:List Int}{w:List Fact}(hw:propF vars (-1) w=true):PropL vars (silF vars w):=fun z hz=>by
 obtain⟨f,hf,y,h1,h2,-,rfl⟩:=silF_mem.1 hz
 obtain⟨hv,hr⟩:=(propF_iff vars w (-1)).1 hw
 have hn:=((vF_iff' w).1 hv).1 f hf
 have:=hr f hf
 refine(propF_iff vars _ (-1)).2 ⟨(vF_iff' _).2 ⟨fun x hx=>?_,List.pairwise_singleton ..⟩,fun x hx=>?_⟩
 ·rw[mI_.1 hx];exact⟨hn.1,h1⟩
 ·rw[mI_.1 hx];exact⟨this.1,by show y<vars.getD f.1.toNat 0;omega⟩
theorem silent1 (f:Fact)(d:Int):∀ (m n:Nat)(v:List (List Fact)),(v.length+m)≤1000000→Rn (M_g_silent_L1_B f d) (M_g_silent_L1_E f d) m n v=some (v++silOne f m n)
 | 0,n,v,h=>by rw[Rn,M_g_silent_L1_E,silOne,List.append_nil]
 | m+1,n,v,h=>by
  rw[Rn,M_g_silent_L1_B,silOne]
  by_cases hn:(n:Int)=f.2
  ·rw[show((n:Int) != f.2)=false from by simp[hn],sel_ff,if_neg (by simp[hn]),List.nil_append]
   exact silent1 f d m (n+1) v (by omega)
  ·rw[show((n:Int) != f.2)=true from by simp[hn],sel_tt,if_pos hn,grd_t (by omega),← List.append_assoc]
   exact silent1 f d m (n+1) _ (by simp;omega)
theorem silent2 (vars:List Int)(hd:∀ n∈vars,0≤n∧n≤64)(e:GEffect):∀ (r:List Fact)(i:Int)(v:List (List Fact)),(∀ f∈r,0≤f.1∧f.1<vars.length)→v.length+r.length*64≤100000 →
  Rg (M_g_silent_L2_B vars e) (M_g_silent_L2_E vars e) r i v=some (v++silF vars r)
 | [],i,v,hr,h=>by rw[Rg,M_g_silent_L2_E,silF,List.flatMap_nil,List.append_nil]
 | f :: r,i,v,hr,h=>by
  have hf:=hr f (mS_ ..)
  obtain⟨d,hdd⟩:∃ d,vars[f.1.toNat]?=some d:=⟨_,gE_ (by omega)⟩
  have hd':=hd d (mG_ hdd)
  rw[Rg,M_g_silent_L2_B,ixv,ix_getD (d:=0) hf.1 hf.2,gD_,hdd,Option.getD_some,M_g_silent_L1_eq f d v (m:=d.toNat) (by omega) (by omega)]
  have h1:=silent1 f d d.toNat 0 v (by rw[lC_]at h;omega)
  rw[show((0:Nat):Int)=0 from rfl]at h1
  rw[h1,ob1_some,silent2 vars hd e r _ _ (fun u hu=>hr u (mC_ _ hu)) (by have:=silOne_len f d.toNat 0;rw[lC_]at h;rw[lA_];omega)]
  rw[silF,silF,List.flatMap_cons,List.append_assoc,gD_,hdd,Option.getD_some]
theorem silent_eq (vars:List Int)(hd:∀ n∈vars,0≤n∧n≤64)(e:GEffect)(hv:vars.length≤64)(hw:propF vars (-1) e.When=true) :
  M_g_silent vars e=some (capR (silF vars e.When)):=by
 have hl:=prop_len hv hw
 obtain⟨h1,h2⟩:=(propF_iff vars _ (-1)).1 hw
 have hn:=((vF_iff' _).1 h1).1
 rw[M_g_silent,M_g_silent_L2_eq vars e [] (by omega),silent2 vars hd e e.When 0 [] (fun f hf=>⟨(hn f hf).1,(h2 f hf).1⟩) (by simp;omega),ob1_some,List.nil_append,sel_dec,capR]
 by_cases h:(silF vars e.When).length≤1024
 ·rw[if_neg (by omega),if_pos h,grd_t (by omega)]
 ·rw[if_pos (by omega),if_neg h]
def capO (l:List (List Fact)):Option (List (List Fact)):=if l.length≤1024 then some l else none
def resR : Option (List (List Fact))→List (List Fact)×Er
 | some l=>(l,Er.nil)
 | none=>([],Er.no 5)
theorem capR_res (l:List (List Fact)):capR l=resR (capO l):=by unfold capR capO;split <;> rfl
theorem capO_some {l m:List (List Fact)}(h:capO l=some m):m=l∧l.length≤1024:=by
 unfold capO at h;split at h
 ·exact⟨(sI_ h).symm,‹_›⟩
 ·cases h
theorem ob2_res {γ:Type}{K:List (List Fact)→Option γ}{F:Int→Option γ}:∀ o:Option (List (List Fact)),ob2 (some (resR o)) (fun z e=>erM e (K z) F)=match o with|some l=>K l|none=>F 5
 | some _=>rfl
 | none=>rfl
def quietG (vars:List Int)(f:Fact):List GEffect→List (List Fact)→Option (List (List Fact))
 | [],l=>some l
 | e :: r,l=>if e.Val=f.2 then quietG vars f r l else(capO (silF vars e.When)).bind fun q=>(capO (joinLL l q)).bind fun j=>quietG vars f r j
def casesG (vars:List Int)(f:Fact):List GEffect→Option (List (List Fact))
 | []=>some []
 | e :: r=>(casesG vars f r).bind fun out=>if e.Val=f.2 then(quietG vars f r [e.When]).map (fun l=>l.foldl addN out)else some out
def casesE (vars:List Int)(f:Fact)(es:List GEffect):Option (List (List Fact)):=(casesG vars f es).bind fun out=>(quietG vars f es [[f]]).map (fun l=>l.foldl addN out)
def casesO (vars:List Int)(o:GOp)(f:Fact):Option (List (List Fact)):=(casesE vars f (o.Effs.filter (fun e=>e.Var == f.1))).bind capO
structure Ok (vars:List Int):Prop where
 len:vars.length≤64
 dom:∀ n∈vars,0≤n∧n≤64
abbrev WhenP (vars:List Int)(es:List GEffect):Prop:=∀ e∈es,propF vars (-1) e.When=true
theorem quietG_prop {vars:List Int}{f:Fact}:∀ {es:List GEffect}{l j:List (List Fact)},WhenP vars es→PropL vars l→l.length≤1024→quietG vars f es l=some j→PropL vars j∧j.length≤1024
 | [],l,j,_,hl,hc,h=>by rw[quietG]at h;cases h;exact⟨hl,hc⟩
 | e :: r,l,j,he,hl,hc,h=>by
  have he':WhenP vars r:=fun u hu=>he u (mC_ _ hu)
  rw[quietG]at h
  split at h
  ·exact quietG_prop he' hl hc h
  ·cases hq:capO (silF vars e.When)with
   | none=>rw[hq]at h;cases h
   | some q =>
    rw[hq,oB_]at h
    cases hj:capO (joinLL l q)with
    | none=>rw[hj]at h;cases h
    | some m =>
     rw[hj,oB_]at h
     obtain⟨rfl,-⟩:=capO_some hq
     obtain⟨rfl,hc'⟩:=capO_some hj
     exact quietG_prop he' (joinLL_prop hl (silF_prop (he e (mS_ ..)))) hc' h
theorem foldN_mem {α:Type} [DecidableEq α](x:α):∀ (l out:List α),x∈l.foldl addN out↔x∈out∨x∈l
 | [],out=>by simp
 | y :: r,out=>by rw[List.foldl_cons,foldN_mem x r,addN_mem,List.mem_cons,or_assoc]
theorem foldN_len {α:Type} [DecidableEq α]:∀ (l out:List α),(l.foldl addN out).length≤out.length+l.length
 | [],out=>by simp
 | y :: r,out=>by
  rw[List.foldl_cons]
  have h1:=foldN_len r (addN out y)
  have h2:(addN out y).length≤out.length+1:=by unfold addN;split <;> simp
  rw[lC_];omega
theorem casesG_prop {vars:List Int}{f:Fact}:∀ {es:List GEffect}{j:List (List Fact)},WhenP vars es→casesG vars f es=some j→PropL vars j∧j.length≤es.length*1024
 | [],j,_,h=>by rw[casesG]at h;cases h;exact⟨(fun _ h=>nomatch h),Nat.le_refl _⟩
 | e :: r,j,he,h=>by
  have he':WhenP vars r:=fun u hu=>he u (mC_ _ hu)
  rw[casesG]at h
  cases hr:casesG vars f r with
  | none=>rw[hr]at h;cases h
  | some out =>
   obtain⟨i1,i2⟩:=casesG_prop he' hr
   rw[hr,oB_]at h
   split at h
   ·cases hq:quietG vars f r [e.When]with
    | none=>rw[hq]at h;cases h
    | some q =>
     rw[hq,Option.map_some]at h
     cases h
     obtain⟨q1,q2⟩:=quietG_prop he' (fun x hx=>by rw[mI_.1 hx];exact he e (mS_ ..)) (by simp) hq
     refine⟨fun x hx=>?_,?_⟩
     ·rcases(foldN_mem x q out).1 hx with h|h
      ·exact i1 x h
      ·exact q1 x h
     ·have:=foldN_len q out
      rw[lC_];omega
   ·obtain rfl:=sI_ h
    refine⟨i1,Nat.le_trans i2 (Nat.mul_le_mul_right _ ?_)⟩
    rw[lC_];omega
def sumR : Option (List (List Fact))→List (List Fact)⊕(List (List Fact)×Er)
 | some l=>.inl l
 | none=>.inr ([],Er.no 5)
theorem cases2 {vars:List Int}(ho:Ok vars)(f:Fact)(g:Nat)(hg:21≤g)(es:List GEffect)(n:Nat)(hes:es.length≤64)(hp:WhenP vars es)(i:Int)(hi:IntKind.i64.wrap (i+1)=(n:Int)):∀ (r:List GEffect)(k:Nat)(l:List (List Fact)),es.drop (n+k)=r→PropL vars l→l.length≤1024 →
  Rn (M_g_cases_L2_B vars f g es i) (M_g_cases_L2_E vars f g es i) r.length k l=some (sumR (quietG vars f r l))
 | [],k,l,hr,hl,hc=>by rw[lN_,Rn,M_g_cases_L2_E,quietG,sumR]
 | e :: r,k,l,hr,hl,hc=>by
  obtain⟨hy,hd,hlt⟩:=drop_cons hr
  have hd':es.drop (n+(k+1))=r:=hd
  have hw:=hp e (mG_ hy)
  rw[lC_,Rn,M_g_cases_L2_B,hi,Int.toNat_natCast,Int.toNat_natCast,ixn_at hy,grd_t (by omega),grd_t (by omega),quietG]
  by_cases hv:e.Val=f.2
  ·rw[show(e.Val == f.2)=true from by simp[hv],sel_tt,if_pos hv]
   exact cases2 ho f g hg es n hes hp i hi r (k+1) l hd' hl hc
  ·rw[show(e.Val == f.2)=false from by simp[hv],sel_ff,if_neg hv,silent_eq vars ho.dom e ho.len hw,capR_res,ob2_res]
   cases hq:capO (silF vars e.When)with
   | none=>rfl
   | some q =>
    obtain⟨rfl,hqc⟩:=capO_some hq
    have hqp:=silF_prop hw
    rw[oB_]
    show ob2 (M_g_join g l (silF vars e.When)) _=_
    rw[rjoin_eq vars ho.len g hg l _ hl hqp (Nat.le_trans hc (by decide)) (Nat.le_trans hqc (by decide)),capR_res,ob2_res]
    cases hj:capO (joinLL l (silF vars e.When))with
    | none=>rfl
    | some m =>
     obtain⟨rfl,hmc⟩:=capO_some hj
     rw[oB_]
     exact cases2 ho f g hg es n hes hp i hi r (k+1) _ hd' (joinLL_prop hl hqp) hmc
theorem cases_1_eq (x y:List Fact)(hy:Sh y):M_g_cases_1 x y=some (decide (y=x)):=by
 rw[M_g_cases_1,compare_eq y x hy,ob1_some]
 congr 1
 by_cases h:y=x
 ·rw[decide_eq_true h,beq_iff_eq,cmpLF_zero,h]
 ·rw[decide_eq_false h,beq_eq_false_iff_ne,Ne,cmpLF_zero];exact h
theorem any_mem (l:List (List Fact))(x:List Fact):l.any (fun y=>decide (y=x))=decide (x∈l):=by
 rw[Bool.eq_iff_iff,List.any_eq_true,decide_eq_true_iff]
 constructor
 ·rintro⟨y,hy,h⟩;rw[← of_decide_eq_true h];exact hy
 ·intro h;exact⟨x,h,decide_eq_true rfl⟩
theorem cases3 (q:List (List Fact)):∀ (r:List (List Fact))(i:Int)(v:List (List Fact)),v.length+r.length≤1000000→(∀ x∈v,Sh x)→(∀ x∈r,Sh x) →
  Rg (M_g_cases_L3_B q) (M_g_cases_L3_E q) r i v=some (.inl (r.foldl addN v))
 | [],i,v,_,_,_=>rfl
 | y :: r,i,v,h,hv,hr=>by
  have hr':∀ x∈r,Sh x:=fun u hu=>hr u (mC_ _ hu)
  rw[lC_]at h
  rw[Rg,M_g_cases_L3_B,ixv,grd_t (by omega),containsFunc_eq (p:=fun x=>decide (x=y)) (by show _≤_;omega) (fun x hx=>cases_1_eq y x (hv x hx)),ob1_some,any_mem,List.foldl_cons]
  by_cases hm:y∈v
  ·rw[decide_eq_true hm,Bool.not_true,sel_ff,addN,if_pos hm]
   exact cases3 q r _ v (by omega) hv hr'
  ·rw[decide_eq_false hm,Bool.not_false,sel_tt,addN,if_neg hm,grd_t (by omega)]
   refine cases3 q r _ _ (by rw[lA_,List.length_singleton];omega) (fun x hx=>?_) hr'
   rcases List.mem_append.1 hx with h|h
   ·exact hv x h
   ·rw[mI_.1 h];exact hr y (mS_ ..)
theorem casesG_none {vars:List Int}{f:Fact}{es:List GEffect}:∀ n:Nat,casesG vars f (es.drop n)=none→casesG vars f es=none
 | 0,h=>h
 | n+1,h=>by
  refine casesG_none n ?_
  rcases Nat.lt_or_ge n es.length with hn|hn
  ·obtain⟨y,-,hd⟩:=drop_at hn
   rw[hd,casesG,h];rfl
  ·rw[List.drop_eq_nil_of_le hn]
   rw[List.drop_eq_nil_of_le (by omega)]at h
   exact h
theorem cases23 {vars:List Int}(ho:Ok vars)(f:Fact)(g:Nat)(hg:21≤g)(es:List GEffect)(n:Nat)(hes:es.length≤64)(hp:WhenP vars es)(hn:n≤es.length)(l out:List (List Fact))(hl:PropL vars l)(hlc:l.length≤1024)(hout:PropL vars out)(hoc:out.length≤70000) :
  ob1 (grd (0≤(IntKind.i64.wrap (((n:Int)-1)+1))) (grd ((IntKind.i64.wrap (((n:Int)-1)+1)).toNat≤es.length) (M_g_cases_L2 vars f g es ((n:Int)-1) ((((es.length-(IntKind.i64.wrap (((n:Int)-1)+1)).toNat:Nat):Int)).toNat+1) l 0)))
   (osum (fun v892=>M_g_cases_L3 v892 ((((v892.map cL_cF).length:Int)).toNat+1) 0 out) (fun(r893,r894)=>some (.inr (r893,r894)))) =
  some (sumR ((quietG vars f (es.drop n) l).map (fun l=>l.foldl addN out))):=by
 have hi:IntKind.i64.wrap (((n:Int)-1)+1)=(n:Int):=by rw[w64 (by omega) (by omega)];omega
 have h2:=cases2 ho f g hg es n hes hp _ hi (es.drop n) 0 l rfl hl hlc
 rw[M_g_cases_L2_eq vars f g es _ l (m:=(es.drop n).length) (by rw[hi,List.length_drop];rfl) (by rw[List.length_drop];omega),hi,grd_t (by omega),grd_t (by omega)]
 rw[show((0:Nat):Int)=0 from rfl]at h2
 rw[h2,ob1_some]
 cases hq:quietG vars f (es.drop n) l with
 | none=>rfl
 | some q =>
  obtain⟨q1,q2⟩:=quietG_prop (fun e he=>hp e (List.mem_of_mem_drop he)) hl hlc hq
  rw[sumR,osum_inl,M_g_cases_L3_eq q out (by omega),cases3 q q 0 out (by omega) (fun x hx=>prop_sh ho.len (hout x hx)) (fun x hx=>prop_sh ho.len (q1 x hx))]
  rfl
theorem cases4 {vars:List Int}(ho:Ok vars)(f:Fact)(g:Nat)(hg:21≤g)(es:List GEffect)(hes:es.length≤64)(hp:WhenP vars es)(hf:propF vars (-1) [f]=true):∀ (n:Nat)(k:Nat)(out:List (List Fact)),n≤es.length→casesG vars f (es.drop n)=some out →
  M_g_cases_L4 vars f g es (n+2+k) ((n:Int)-1) out=some (sumR (casesE vars f es))
 | 0,k,out,hn,h=>by
  obtain⟨o1,o2⟩:=casesG_prop (fun e he=>hp e (List.mem_of_mem_drop he)) h
  rw[show 0+2+k=(0+1+k)+1 from by omega,M_g_cases_L4,sel_dec,if_pos (by decide),sel_dec,if_neg (by decide),ob1_some,osum_inl,
   cases23 ho f g hg es 0 hes hp hn [[f]] out (fun x hx=>by rw[mI_.1 hx];exact hf) (by simp) o1 (by rw[List.drop_zero]at o2;omega),ob1_some,casesE]
  rw[List.drop_zero]at h ⊢
  rw[h,oB_]
  cases (quietG vars f es [[f]])with
  | none=>rfl
  | some q =>
   rw[Option.map_some,sumR,osum_inl,show 0+1+k=k+1 from by omega,M_g_cases_L4,sel_dec,if_neg (by decide)]
 | n+1,k,out,hn,h=>by
  obtain⟨e,hy,hd⟩:=drop_at (l:=es) (n:=n) (by omega)
  obtain⟨o1,o2⟩:=casesG_prop (fun e he=>hp e (List.mem_of_mem_drop he)) h
  rw[show n+1+2+k=(n+2+k)+1 from by omega,M_g_cases_L4,sel_dec,if_pos (by omega),sel_dec,if_pos (by omega),show((n+1:Nat):Int)-1=(n:Int)from by omega,Int.toNat_natCast,ixn_at hy,grd_t (by omega),grd_t (by omega)]
  have hnext:IntKind.i64.wrap ((n:Int)-1)=(n:Int)-1:=w64 (by omega) (by omega)
  have hG:casesG vars f (es.drop n)=if e.Val=f.2 then(quietG vars f (es.drop (n+1)) [e.When]).map (fun l=>l.foldl addN out)else some out:=by rw[hd,casesG,h];rfl
  by_cases hv:e.Val=f.2
  ·rw[if_pos hv]at hG
   have h23:=cases23 ho f g hg es (n+1) hes hp hn [e.When] out (fun x hx=>by rw[mI_.1 hx];exact hp e (mG_ hy)) (by simp) o1 (by rw[List.length_drop]at o2;omega)
   rw[show((n+1:Nat):Int)-1=(n:Int)from by omega,← hG]at h23
   rw[show(e.Val != f.2)=false from by simp[hv],sel_ff,ixn_at hy,ob1_some,osum_inl,h23,ob1_some]
   cases hc:casesG vars f (es.drop n)with
   | none=>rw[sumR,osum_inr,casesE,casesG_none n hc];rfl
   | some out' =>
    rw[sumR,osum_inl,hnext]
    exact cases4 ho f g hg es hes hp hf n k out' (by omega) hc
  ·rw[if_neg hv]at hG
   rw[show(e.Val != f.2)=true from by simp[hv],sel_tt,ob1_some,osum_inr,ob1_some,osum_inl,hnext]
   exact cases4 ho f g hg es hes hp hf n k out (by omega) hG
theorem cases1 (o:GOp)(f:Fact):∀ (r:List GEffect)(i:Int)(v:List GEffect),v.length+r.length≤1000000→Rg (M_g_cases_L1_B o f) (M_g_cases_L1_E o f) r i v=some (v++r.filter (fun e=>e.Var == f.1))
 | [],i,v,h=>by rw[Rg,M_g_cases_L1_E,List.filter_nil,List.append_nil]
 | e :: r,i,v,h=>by
  rw[lC_]at h
  rw[Rg,M_g_cases_L1_B,ixv]
  cases hv:e.Var == f.1 with
  | true =>
   rw[sel_tt,grd_t (by omega),cases1 o f r _ _ (by rw[lA_,List.length_singleton];omega),List.filter_cons,hv,if_pos rfl,List.append_assoc,List.singleton_append]
  | false =>
   rw[sel_ff,cases1 o f r _ _ (by omega),List.filter_cons,hv,if_neg (by decide)]
theorem cases_eq {vars:List Int}(ho:Ok vars)(o:GOp)(f:Fact)(g:Nat)(hg:70≤g)(hes:o.Effs.length≤64)(hp:WhenP vars o.Effs)(hf:propF vars (-1) [f]=true) :
  M_g_cases g vars o f=some (resR (casesO vars o f)):=by
 rw[M_g_cases,M_g_cases_L1_eq o f [] (by omega),cases1 o f o.Effs 0 [] (by simp;omega),List.nil_append,ob1_some,casesO]
 have hle:(o.Effs.filter (fun e=>e.Var == f.1)).length≤64:=Nat.le_trans (List.length_filter_le _ _) hes
 have hp':WhenP vars (o.Effs.filter (fun e=>e.Var == f.1)):=fun e he=>hp e (List.mem_filter.1 he).1
 generalize o.Effs.filter (fun e=>e.Var == f.1)=es at hle hp'
 have h4:=cases4 ho f g (by omega) es hle hp' hf es.length (g-(es.length+2)) [] (Nat.le_refl _) (by rw[List.drop_length,casesG])
 rw[show es.length+2+(g-(es.length+2))=g from by omega]at h4
 rw[w64 (by omega) (by omega),h4,ob1_some]
 cases casesE vars f es with
 | none=>rfl
 | some l =>
  rw[sumR,osum_inl,sel_dec,oB_,capO]
  by_cases h:l.length≤1024
  ·rw[if_neg (by omega),if_pos h];exact grd_t (by omega)
  ·rw[if_pos (by omega),if_neg h];rfl
def mapC (vars:List Int)(o:GOp):List Fact→Option (List (List (List Fact)))
 | []=>some []
 | f :: r=>(casesO vars o f).bind fun c=>(mapC vars o r).map (c :: ·)
def foldJ : List (List (List Fact))→List (List Fact)→Option (List (List Fact))
 | [],l=>some l
 | c :: r,l=>(capO (joinLL l c)).bind (foldJ r)
def regG (vars:List Int)(o:GOp):List Fact→List (List Fact)→Option (List (List Fact))
 | [],l=>some l
 | f :: r,l=>(casesO vars o f).bind fun c=>(capO (joinLL l c)).bind (regG vars o r)
theorem mapC_foldJ (vars:List Int)(o:GOp):∀ (p:List Fact)(l:List (List Fact)),(mapC vars o p).bind (fun cs=>foldJ cs l)=regG vars o p l
 | [],l=>rfl
 | f :: r,l=>by
  rw[mapC,regG]
  cases casesO vars o f with
  | none=>rfl
  | some c =>
   rw[oB_,oB_]
   cases hc:capO (joinLL l c)with
   | none=>cases mapC vars o r <;> simp[foldJ,hc]
   | some j =>
    rw[oB_,← mapC_foldJ vars o r j]
    cases mapC vars o r <;> simp[foldJ,hc]
theorem casesO_prop {vars:List Int}{o:GOp}{f:Fact}{c:List (List Fact)}(hp:WhenP vars o.Effs)(hf:propF vars (-1) [f]=true)(h:casesO vars o f=some c):PropL vars c∧c.length≤1024:=by
 unfold casesO at h
 have hp':WhenP vars (o.Effs.filter (fun e=>e.Var == f.1)):=fun e he=>hp e (List.mem_filter.1 he).1
 generalize o.Effs.filter (fun e=>e.Var == f.1)=es at h hp'
 cases he:casesE vars f es with
 | none=>rw[he]at h;cases h
 | some l =>
  rw[he,oB_]at h
  obtain⟨rfl,hc⟩:=capO_some h
  refine⟨?_,hc⟩
  unfold casesE at he
  cases hg:casesG vars f es with
  | none=>rw[hg]at he;cases he
  | some out =>
   rw[hg,oB_]at he
   cases hq:quietG vars f es [[f]]with
   | none=>rw[hq]at he;cases he
   | some q =>
    rw[hq,Option.map_some]at he
    cases he
    intro x hx
    rcases(foldN_mem x q out).1 hx with h|h
    ·exact(casesG_prop hp' hg).1 x h
    ·exact(quietG_prop hp' (fun x hx=>by rw[mI_.1 hx];exact hf) (by simp) hq).1 x h
theorem propF_one {vars:List Int}{p:List Fact}(h:propF vars (-1) p=true){f:Fact}(hf:f∈p):propF vars (-1) [f]=true:=by
 obtain⟨h1,h2⟩:=(propF_iff vars p (-1)).1 h
 have hn:=((vF_iff' p).1 h1).1 f hf
 refine(propF_iff vars _ (-1)).2 ⟨(vF_iff' _).2 ⟨fun x hx=>?_,List.pairwise_singleton ..⟩,fun x hx=>?_⟩
 ·rw[mI_.1 hx];exact hn
 ·rw[mI_.1 hx];exact h2 f hf
def sumC : Option (List (List (List Fact)))→List (List (List Fact))⊕(List (List Fact)×Er)
 | some l=>.inl l
 | none=>.inr ([],Er.no 5)
theorem pre1 (t:GTask)(ho:Ok t.Vars)(p:List Fact)(hpf:propF t.Vars (-1) p=true)(g:Nat)(hg:70≤g)(o:GOp)(hes:o.Effs.length≤64)(hp:WhenP t.Vars o.Effs):∀ (r:List Fact)(acc:List (List (List Fact))),(∀ f∈r,f∈p) →
  Rg (M_g_preimage_L1_B t p g o) (M_g_preimage_L1_E t p g o) r acc.length (acc++List.replicate r.length [])=some (sumC ((mapC t.Vars o r).map (acc++·)))
 | [],acc,hr=>by rw[Rg,M_g_preimage_L1_E,mapC,Option.map_some];rfl
 | f :: r,acc,hr=>by
  have hf:=hr f (mS_ ..)
  rw[Rg,M_g_preimage_L1_B,ixv,cases_eq ho o f g hg hes hp (propF_one hpf hf),ob2_res,mapC]
  cases casesO t.Vars o f with
  | none=>rfl
  | some c =>
   have he:(acc++List.replicate (f :: r).length ([]:List (List Fact)))[acc.length]?=some []:=by simp[List.replicate_succ]
   have hs:(acc++List.replicate (f :: r).length ([]:List (List Fact))).set acc.length c=(acc++[c])++List.replicate r.length []:=by
    rw[List.set_append_right _ _ (Nat.le_refl _),Nat.sub_self,lC_,List.replicate_succ,List.set_cons_zero,List.append_assoc,List.singleton_append]
   rw[oB_]
   show ixn _ _ _=_
   rw[Int.toNat_natCast,ixn_at he,grd_t (by simp;omega),hs]
   have ih:=pre1 t ho p hpf g hg o hes hp r (acc++[c]) (fun u hu=>hr u (mC_ _ hu))
   rw[show((acc++[c]).length:Int)=(acc.length:Int)+1 from by simp]at ih
   rw[ih]
   cases mapC t.Vars o r with
   | none=>rfl
   | some cs=>simp
theorem pre2 {vars:List Int}(hv:vars.length≤64)(g:Nat)(hg:21≤g)(cs:List (List (List Fact)))(hcs:∀ c∈cs,PropL vars c∧c.length≤1024):∀ (r:List (List (List Fact)))(n:Nat)(l:List (List Fact)),cs.drop n=r→PropL vars l→l.length≤1024 →
  Rn (M_g_preimage_L2_B g cs) (M_g_preimage_L2_E g cs) r.length n l=some (resR (foldJ r l))
 | [],n,l,h,hl,hc=>by rw[lN_,Rn,M_g_preimage_L2_E,foldJ,resR]
 | c :: r,n,l,h,hl,hc=>by
  obtain⟨hy,hd,hlt⟩:=drop_cons h
  obtain⟨c1,c2⟩:=hcs c (mG_ hy)
  rw[lC_,Rn,M_g_preimage_L2_B,Int.toNat_natCast,ixn_at hy,grd_t (by omega),grd_t (by omega),rjoin_eq vars hv g hg l c hl c1 (Nat.le_trans hc (by decide)) (Nat.le_trans c2 (by decide)),capR_res,ob2_res,foldJ]
  cases hj:capO (joinLL l c)with
  | none=>rfl
  | some m =>
   obtain⟨rfl,hm⟩:=capO_some hj
   rw[oB_]
   exact pre2 hv g hg cs hcs r (n+1) _ hd (joinLL_prop hl c1) hm
theorem mapC_prop {vars:List Int}{o:GOp}(hp:WhenP vars o.Effs):∀ {p:List Fact}{cs:List (List (List Fact))},(∀ f∈p,propF vars (-1) [f]=true)→mapC vars o p=some cs→(∀ c∈cs,PropL vars c∧c.length≤1024)∧cs.length=p.length
 | [],cs,_,h=>by rw[mapC]at h;cases h;exact⟨(fun _ h=>nomatch h),rfl⟩
 | f :: r,cs,hf,h=>by
  rw[mapC]at h
  cases hc:casesO vars o f with
  | none=>rw[hc]at h;cases h
  | some c =>
   rw[hc,oB_]at h
   cases hr:mapC vars o r with
   | none=>rw[hr]at h;cases h
   | some ds =>
    rw[hr,Option.map_some]at h
    obtain rfl:=sI_ h
    obtain⟨i1,i2⟩:=mapC_prop hp (fun u hu=>hf u (mC_ _ hu)) hr
    refine⟨fun x hx=>?_,by rw[lC_,lC_,i2]⟩
    rcases List.mem_cons.1 hx with rfl|hx
    ·exact casesO_prop hp (hf f (mS_ ..)) hc
    ·exact i1 x hx
structure OkO (vars:List Int)(o:GOp):Prop where
 effs:o.Effs.length≤64
 when:WhenP vars o.Effs
 pre:propF vars (-1) o.Pre=true
theorem good_ok {t:GTask}(h:goodF t=true):Ok t.Vars:=by
 unfold goodF at h
 simp only[bA_,decide_eq_true_iff,List.all_eq_true]at h
 exact⟨h.1.1,fun n hn=>by have:=h.2.1 n hn;omega⟩
theorem good_op {t:GTask}(h:goodF t=true){o:GOp}(ho:o∈t.Ops):OkO t.Vars o:=by
 unfold goodF at h
 simp only[bA_,List.all_eq_true]at h
 have h1:=h.2.2.2.2 o ho
 unfold opF at h1
 simp only[bA_,decide_eq_true_iff,List.all_eq_true]at h1
 refine⟨h1.1.2.2.1,fun e he=>?_,h1.2.1⟩
 have h2:=h1.2.2.2 e he
 unfold effF at h2
 exact(bA_ _ _ ▸ h2).1
theorem preimage_eq (t:GTask)(ht:ShT t)(hgood:goodF t=true)(p:List Fact)(hpf:propF t.Vars (-1) p=true)(g:Nat)(hg:70≤g)(op:Int)(o:GOp)(h0:0≤op)(hop:t.Ops[op.toNat]?=some o) :
  M_g_preimage g t op p=some (resR (regG t.Vars o p [o.Pre])):=by
 have ok:=good_ok hgood
 have oo:=good_op hgood (mG_ hop)
 have hlt:=lt_some hop
 have hpl:=prop_len ok.len hpf
 have hpre:=prop_len ok.len oo.pre
 obtain⟨k,rfl⟩:∃ k:Nat,op=k:=⟨op.toNat,by omega⟩
 rw[Int.toNat_natCast]at hop hlt
 rw[M_g_preimage,check_eq t ht,(good_check t).1 hgood,ob1_some]
 show ob1 _ _=_
 rw[sel_dec,if_neg (by omega),sel_dec,if_neg (by rw[lM_];omega),ob1_some,osum_inl,facts_eq _ _ (by show _≤_;omega),hpf,ob1_some,Bool.not_true,sel_ff,ix_at hop,
  grd_t (by omega),grd_t (by rw[lM_];omega),M_g_preimage_L1_eq t p g o _ (by omega)]
 have h1:=pre1 t ok p hpf g hg o oo.effs oo.when p [] (fun _ h=>h)
 rw[List.nil_append]at h1
 rw[lM_,Int.toNat_natCast]
 have h1':Rg (M_g_preimage_L1_B t p g o) (M_g_preimage_L1_E t p g o) p 0 (List.replicate p.length [])=some (sumC (mapC t.Vars o p)):=by
  rw[show((([]:List (List (List Fact))).length:Nat):Int)=0 from rfl]at h1
  rw[h1];cases mapC t.Vars o p <;> rfl
 rw[h1',ob1_some,← mapC_foldJ]
 cases hm:mapC t.Vars o p with
 | none=>rfl
 | some cs =>
  obtain⟨c1,c2⟩:=mapC_prop oo.when (fun f hf=>propF_one hpf hf) hm
  rw[sumC,osum_inl,M_cloneF,grd_t (by omega),ob1_some,grd_t (by omega),M_g_preimage_L2_eq g cs [o.Pre] (m:=cs.length) rfl (by omega),oB_]
  exact pre2 ok.len g (by omega) cs c1 cs 0 [o.Pre] rfl (fun x hx=>by rw[mI_.1 hx];exact oo.pre) (by simp)
def findF : List Fact→Int→Int
 | [],_=>-1
 | f :: r,v=>if f.1=v then f.2 else findF r v
theorem find_loop (l:List Fact)(v:Int):∀ (r:List Fact)(i:Int),Rg (M_p_find_L1_B l v) (M_p_find_L1_E l v) r i ()=some (findF r v)
 | [],i=>rfl
 | f :: r,i=>by
  rw[Rg,M_p_find_L1_B,ixv,findF]
  by_cases h:f.1=v
  ·rw[show(f.1 == v)=true from by simp[h],sel_tt,if_pos h]
  ·rw[show(f.1 == v)=false from by simp[h],sel_ff,if_neg h,find_loop l v r]
theorem find_eq (l:List Fact)(v:Int)(hl:Sh l):M_p_find l v=some (findF l v):=by rw[M_p_find,M_p_find_L1_eq l v hl.lt,find_loop]
theorem findF_mem : ∀ {l:List Fact}{f:Fact},Asc l→0≤f.2→(findF l f.1=f.2↔f∈l)
 | [],f,_,h0=>by rw[findF];constructor;(intro h;omega);exact(nofun)
 | x :: r,f,ha,h0=>by
  obtain⟨h1,h2⟩:=List.pairwise_cons.1 ha
  rw[findF,List.mem_cons]
  by_cases h:x.1=f.1
  ·rw[if_pos h]
   constructor
   ·intro e;exact Or.inl (Prod.ext h.symm e.symm)
   ·rintro(rfl|hm)
    ·rfl
    ·have:=h1 f hm;omega
  ·rw[if_neg h,findF_mem h2 h0]
   constructor
   ·exact Or.inr
   ·rintro(rfl|hm)
    ·exact absurd rfl h
    ·exact hm
def subF (b a:List Fact):Bool:=b.all fun f=>decide (f∈a)
theorem subF_iff {a b:List Fact}:subF b a=true↔∀ f∈b,f∈a:=by simp[subF]
theorem contains_eq (a b:List Fact)(ha:Sh a)(hb:Sh b)(hva:vF (-1) a=true)(hvb:vF (-1) b=true):M_p_contains a b=some (subF b a):=by
 rw[M_p_contains,M_p_contains_L1_eq a b hb.lt,rg_all (p:=fun f=>decide (f∈a)) (c:=some false)]
 ·rw[M_p_contains_L1_E];show _=some (b.all _);cases b.all fun f=>decide (f∈a) <;> rfl
 ·intro y hy i rc
  have h:=findF_mem (f:=y) ((vF_iff' a).1 hva).2 ((vF_iff' b).1 hvb |>.1 y hy).2
  rw[M_p_contains_L1_B,ixv,find_eq a _ ha,ob1_some]
  by_cases hm:y∈a
  ·rw[show(findF a y.1 != y.2)=false from by rw[h.2 hm];simp,sel_ff,decide_eq_true hm,if_pos rfl]
  ·rw[show(findF a y.1 != y.2)=true from by rw[bne_iff_ne];exact fun e=>hm (h.1 e),sel_tt,decide_eq_false hm,if_neg (by decide)]
theorem sub_len : ∀ {a b:List Fact},Asc a→Asc b→(∀ f∈b,f∈a)→b.length≤a.length∧(b.length=a.length→b=a)
 | [],[],_,_,_=>⟨Nat.le_refl _,fun _=>rfl⟩
 | [],y :: s,_,_,h=>nomatch h y (mS_ ..)
 | x :: r,[],_,_,_=>⟨Nat.zero_le _,fun e=>by cases e⟩
 | x :: r,y :: s,ha,hb,h=>by
  obtain⟨h1,h2⟩:=List.pairwise_cons.1 ha
  obtain⟨k1,k2⟩:=List.pairwise_cons.1 hb
  rcases List.mem_cons.1 (h y (mS_ ..))with e|hy
  ·subst e
   obtain⟨i1,i2⟩:=sub_len h2 k2 (fun z hz=>by
    rcases List.mem_cons.1 (h z (mC_ _ hz))with e|h'
    ·have:=k1 z hz;rw[e]at this;omega
    ·exact h')
   refine⟨by rw[lC_,lC_];omega,fun e=>?_⟩
   rw[lC_,lC_]at e
   rw[i2 (by omega)]
  ·obtain⟨i1,-⟩:=sub_len (a:=r) h2 hb (fun z hz=>by
    rcases List.mem_cons.1 (h z hz)with e|h'
    ·have l1:=h1 y hy
     rcases List.mem_cons.1 hz with e2|hz
     ·rw[e]at e2;rw[← e2]at l1;omega
     ·have l2:=k1 z hz;rw[e]at l2;omega
    ·exact h')
   rw[lC_]at i1
   exact⟨by rw[lC_,lC_];omega,fun e=>by rw[lC_,lC_]at e;omega⟩
theorem nodup_at {α:Type}{l:List α}(h:l.Nodup){i j:Nat}{x:α}(hi:l[i]?=some x)(hj:l[j]?=some x):i=j:=by
 obtain⟨b1,b2⟩:=gS_.1 hi
 obtain⟨b3,b4⟩:=gS_.1 hj
 rcases Nat.lt_trichotomy i j with hl|hl|hl
 ·exact absurd (b2.trans b4.symm) (List.pairwise_iff_getElem.1 h i j b1 b3 hl)
 ·exact hl
 ·exact absurd (b4.trans b2.symm) (List.pairwise_iff_getElem.1 h j i b3 b1 hl)
def keepF (l:List (List Fact))(x:List Fact):Bool:=l.all fun y=>!(subF y x&&decide (y≠x))
theorem min1 (vars:List Int)(hv:vars.length≤64)(l:List (List Fact))(hl:PropL vars l)(hn:l.Nodup)(i:Nat)(x:List Fact)(hx:l[i]?=some x):∀ (r:List (List Fact))(n:Nat),l.drop n=r →
  Rg (M_p_Minimal_L1_B l i x) (M_p_Minimal_L1_E l i x) r n ()=some (r.all fun y=>!(subF y x&&decide (y≠x)))
 | [],n,h=>rfl
 | y :: r,n,h=>by
  obtain⟨hy,hd,hlt⟩:=drop_cons h
  have hxp:=hl x (mG_ hx)
  have hyp:=hl y (mG_ hy)
  have ih:=min1 vars hv l hl hn i x hx r (n+1) hd
  have vx:=propF_vF' hxp
  have vy:=propF_vF' hyp
  rw[Rg,M_p_Minimal_L1_B,ixv,List.all_cons]
  by_cases e:i=n
  ·subst e
   obtain rfl:x=y:=by rw[hx]at hy;exact sI_ hy
   rw[show((i:Int) != (i:Int))=false from by simp,sel_ff,decide_eq_false (by simp),Bool.and_false,Bool.not_false,Bool.true_and]
   exact ih
  ·have hne:y≠x:=fun h=>e (nodup_at hn hx (h ▸ hy))
   rw[show((i:Int) != (n:Int))=true from by rw[bne_iff_ne];omega,sel_tt,valid_eq y (prop_sh hv hyp),vy,ob1_some,sel_tt,contains_eq x y (prop_sh hv hxp) (prop_sh hv hyp) vx vy,ob1_some,decide_eq_true hne,Bool.and_true]
   cases hs:subF y x with
   | false=>rw[sel_ff,Bool.not_false,Bool.true_and];exact ih
   | true =>
    obtain⟨s1,s2⟩:=sub_len ((vF_iff' x).1 vx).2 ((vF_iff' y).1 vy).2 (subF_iff.1 hs)
    have:y.length≠x.length:=fun e=>hne (s2 e)
    rw[sel_tt,sel_dec,if_pos (by rw[lM_,lM_];omega),Bool.not_true,Bool.false_and]
theorem min2 (vars:List Int)(hv:vars.length≤64)(l:List (List Fact))(hl:PropL vars l)(hn:l.Nodup)(hc:l.length≤100000):∀ (r:List (List Fact))(n:Nat)(v:List (List Fact)),l.drop n=r→v.length≤n →
  Rg (M_p_Minimal_L2_B l) (M_p_Minimal_L2_E l) r n v=some (v++r.filter (keepF l))
 | [],n,v,h,hvl=>by rw[Rg,M_p_Minimal_L2_E,List.filter_nil,List.append_nil]
 | x :: r,n,v,h,hvl=>by
  obtain⟨hy,hd,hlt⟩:=drop_cons h
  have hxp:=hl x (mG_ hy)
  have hxl:=prop_len hv hxp
  rw[Rg,M_p_Minimal_L2_B,ixv,valid_eq x (prop_sh hv hxp),propF_vF' hxp,ob1_some,Bool.not_true,sel_ff,M_p_Minimal_L1_eq l n x (by omega)]
  have h1:=min1 vars hv l hl hn n x hy l 0 rfl
  rw[show((0:Nat):Int)=0 from rfl]at h1
  rw[h1,ob1_some,List.filter_cons]
  show ob1 (sel (keepF l x) _ _) _=_
  cases keepF l x with
  | true =>
   rw[sel_tt,M_cloneF,grd_t (by omega),ob1_some,grd_t (by omega),grd_t (by omega),ob1_some,if_pos rfl]
   have:=min2 vars hv l hl hn hc r (n+1) (v++[x]) hd (by rw[lA_,List.length_singleton];omega)
   rw[List.append_assoc,List.singleton_append]at this
   exact this
  | false =>
   rw[sel_ff,ob1_some,if_neg (by decide)]
   exact min2 vars hv l hl hn hc r (n+1) v hd (by omega)
def minF (l:List (List Fact)):List (List Fact):=l.filter (keepF l)
theorem minimal_eq (vars:List Int)(hv:vars.length≤64)(l:List (List Fact))(hl:PropL vars l)(hn:l.Nodup)(hc:l.length≤100000):M_p_Minimal l=some (minF l):=by
 rw[M_p_Minimal,M_p_Minimal_L2_eq l [] (by omega)]
 exact min2 vars hv l hl hn hc l 0 [] rfl (Nat.le_refl _)
theorem sortLL_mem (x:List Fact)(l:List (List Fact)):x∈sortLL l↔x∈l:=(List.mergeSort_perm l _).mem_iff
theorem reg1 (z:List (List Fact))(v:List (List Fact))(hv:∀ x∈v,x.length≤100000)(hl:v.length≤100000):∀ (m n:Nat),n+m=v.length→Rn (M_g_Regress_L1_B z) (M_g_Regress_L1_E z) m n v=some (v,Er.nil)
 | 0,n,h=>by rw[Rn,M_g_Regress_L1_E,grd_t (by omega)]
 | m+1,n,h=>by
  obtain⟨y,hy,-⟩:=drop_at (l:=v) (n:=n) (by omega)
  have hyl:=hv y (mG_ hy)
  obtain⟨b1,b2⟩:=gS_.1 hy
  have hs:v.set n y=v:=by rw[← b2,List.set_getElem_self]
  rw[Rn,M_g_Regress_L1_B,Int.toNat_natCast,ixn_at hy,M_cloneF,grd_t (by omega),ob1_some,ixn_at hy,grd_t (by omega),grd_t (by omega),grd_t (by omega),hs]
  exact reg1 z v hv hl m (n+1) (by omega)
theorem regG_prop {vars:List Int}{o:GOp}(hp:WhenP vars o.Effs):∀ {p:List Fact}{l j:List (List Fact)},(∀ f∈p,propF vars (-1) [f]=true)→PropL vars l→l.Nodup→l.length≤1024→regG vars o p l=some j→PropL vars j∧j.Nodup∧j.length≤1024
 | [],l,j,_,h1,h2,h3,h=>by rw[regG]at h;obtain rfl:=sI_ h;exact⟨h1,h2,h3⟩
 | f :: r,l,j,hf,h1,h2,h3,h=>by
  rw[regG]at h
  cases hc:casesO vars o f with
  | none=>rw[hc]at h;cases h
  | some c =>
   rw[hc,oB_]at h
   cases hj:capO (joinLL l c)with
   | none=>rw[hj]at h;cases h
   | some m =>
    rw[hj,oB_]at h
    obtain⟨rfl,hm⟩:=capO_some hj
    exact regG_prop hp (fun u hu=>hf u (mC_ _ hu)) (joinLL_prop h1 (casesO_prop hp (hf f (mS_ ..)) hc).1) (joinLL_nodup _ _) hm h
def regO (vars:List Int)(o:GOp)(p:List Fact):Option (List (List Fact)):=(regG vars o p [o.Pre]).map fun l=>sortLL (minF l)
theorem pre_prop {t:GTask}(hgood:goodF t=true){p:List Fact}(hpf:propF t.Vars (-1) p=true){o:GOp}(ho:o∈t.Ops){l:List (List Fact)}(h:regG t.Vars o p [o.Pre]=some l):PropL t.Vars l∧l.Nodup∧l.length≤1024:=by
 have oo:=good_op hgood ho
 exact regG_prop oo.when (fun f hf=>propF_one hpf hf) (fun x hx=>by rw[mI_.1 hx];exact oo.pre) (by simp) (by simp) h
theorem regress_eq (t:GTask)(ht:ShT t)(hgood:goodF t=true)(p:List Fact)(hpf:propF t.Vars (-1) p=true)(g:Nat)(hg:70≤g)(op:Int)(o:GOp)(h0:0≤op)(hop:t.Ops[op.toNat]?=some o) :
  M_g_Regress g t op p=some (resR (regO t.Vars o p)):=by
 have ok:=good_ok hgood
 rw[M_g_Regress,preimage_eq t ht hgood p hpf g hg op o h0 hop,ob2_res,regO]
 cases hr:regG t.Vars o p [o.Pre]with
 | none=>rfl
 | some l =>
  obtain⟨l1,l2,l3⟩:=pre_prop hgood hpf (mG_ hop) hr
  have hml:(minF l).length≤1024:=Nat.le_trans (List.length_filter_le _ _) l3
  have hmp:∀ y∈minF l,y.length≤64:=fun y hy=>prop_len ok.len (l1 y (List.mem_filter.1 hy).1)
  show ob1 _ _=_
  rw[minimal_eq t.Vars ok.len l l1 l2 (by omega),ob1_some,M_sortL,grd_t (by omega),grd_t (fun y hy=>by have:=hmp y hy;omega),ob1_some,grd_t (sortLL_length _),M_g_Regress_L1_eq (minF l) _ (m:=(minF l).length) rfl (by omega)]
  exact reg1 (minF l) (sortLL (minF l)) (fun x hx=>by have:=hmp x ((sortLL_mem x _).1 hx);omega) (by rw[sortLL_length];omega) _ 0 (by rw[sortLL_length];omega)
def hold1 (s:List Int)(x:Fact):Bool:=decide (0≤x.1)&&(decide (x.1<s.length)&&s.getD x.1.toNat 0 == x.2)
def holdsF (s:List Int)(l:List Fact):Bool:=l.all (hold1 s)
theorem holds_eq (l:List Fact)(s:List Int)(hl:Sh l):M_b_Holds l s=some (holdsF s l):=by
 rw[M_b_Holds,M_b_Holds_L1_eq l s hl.lt,rg_all (p:=hold1 s) (c:=some false)]
 ·rw[M_b_Holds_L1_E,holdsF];cases l.all (hold1 s) <;> rfl
 ·intro x _ i rc
  rw[M_b_Holds_L1_B,ixv,sel_dec,sel_dec,lM_,hold1]
  by_cases h0:x.1<0
  ·rw[if_pos h0,decide_eq_false (by omega),Bool.false_and,if_neg (by decide)]
  ·rw[if_neg h0,decide_eq_true (p:=0≤x.1) (by omega),Bool.true_and]
   by_cases h1:x.1<s.length
   ·rw[if_neg (by omega),decide_eq_true h1,Bool.true_and,ix_getD (d:=0) (by omega) h1,bne]
    cases s.getD x.1.toNat 0 == x.2 <;> rfl
   ·rw[if_pos (by omega),decide_eq_false h1,Bool.false_and,if_neg (by decide)]
def manyF (most:Int):List Int→Int→Int
 | [],n=>n
 | k :: r,n=>if n*min (max k 0) (most+1)>most then most+1 else manyF most r (n*min (max k 0) (most+1))
theorem many_loop (most:Int)(hm:0≤most∧most≤1048576)(vars:List Int):∀ (r:List Int)(i n:Int),0≤n→n≤1048576→Rg (M_b_Many_L1_B vars most) (M_b_Many_L1_E vars most) r i n=some (manyF most r n)
 | [],i,n,_,_=>rfl
 | k :: r,i,n,h0,h1=>by
  have hb:0≤min (max k 0) (most+1)∧min (max k 0) (most+1)≤1048577:=by omega
  have h2:0≤n*min (max k 0) (most+1):=Int.mul_nonneg h0 hb.1
  have h3:n*min (max k 0) (most+1)≤1048576*1048577:=Int.mul_le_mul h1 hb.2 hb.1 (by decide)
  rw[Rg,M_b_Many_L1_B,ixv,w64 (z:=most+1) (by omega) (by omega),w64 (z:=n*min (max k 0) (most+1)) (by omega) (by omega),sel_dec,manyF]
  by_cases h:n*min (max k 0) (most+1)>most
  ·rw[if_pos h,if_pos h]
  ·rw[if_neg h,if_neg h]
   exact many_loop most hm vars r _ _ h2 (by omega)
theorem many_eq (vars:List Int)(hv:Sh vars)(most:Int)(hm:0≤most∧most≤1048576):M_b_Many vars most=some (manyF most vars 1):=by
 rw[M_b_Many,M_b_Many_L1_eq vars most _ hv.lt,many_loop most hm vars vars 0 1 (by decide) (by decide)]
def smallF (t:GTask):Bool:=decide (t.Vars.length≤12∧t.Ops.length≤20)&&(t.Ops.all (fun o=>decide (o.Effs.length≤8))&&(goodF t&&decide (manyF 512 t.Vars 1≤512)))
theorem small_eq (t:GTask)(ht:ShT t):M_b_Small t=some (smallF t):=by
 rw[M_b_Small,lM_,lM_,sel_dec,sel_dec,smallF]
 by_cases h1:t.Vars.length≤12
 ·rw[if_neg (by omega)]
  by_cases h2:t.Ops.length≤20
  ·have e:=M_b_Small_L1_eq t ht.ops.lt
   rw[lM_]at e
   rw[if_neg (by omega),decide_eq_true ⟨h1,h2⟩,Bool.true_and,ob1_some,osum_inl,e,rg_all (p:=fun o:GOp=>decide (o.Effs.length≤8)) (c:=some (.inr false))]
   ·cases t.Ops.all (fun o=>decide (o.Effs.length≤8))with
    | false=>rfl
    | true =>
     rw[if_pos rfl,M_b_Small_L1_E,ob1_some,osum_inl,good_eq t ht,ob1_some,Bool.true_and]
     cases goodF t with
     | false=>rfl
     | true=>rw[sel_tt,many_eq _ ht.vars 512 (by decide),ob1_some,Bool.true_and]
   ·intro o _ i rc
    rw[M_b_Small_L1_B,ixv,sel_dec,lM_]
    by_cases h:o.Effs.length≤8
    ·rw[if_neg (by omega),decide_eq_true h,if_pos rfl]
    ·rw[if_pos (by omega),decide_eq_false h,if_neg (by decide)]
  ·rw[if_pos (by omega),decide_eq_false (fun h=>h2 h.2)];rfl
 ·rw[if_pos (by omega),decide_eq_false (fun h=>h1 h.1)];rfl
theorem small_good {t:GTask}(h:smallF t=true):goodF t=true∧t.Vars.length≤12∧t.Ops.length≤20:=by
 unfold smallF at h
 simp only[bA_,decide_eq_true_iff]at h
 exact⟨h.2.2.1,h.1.1,h.1.2⟩
structure StP (vars s:List Int):Prop where
 len:s.length=vars.length
 rng:∀ v:Nat,v<vars.length→0≤s.getD v 0∧s.getD v 0<vars.getD v 0
def some1 (s:List Int)(l:List (List Fact)):Prop:=∃ z∈l,holdsF s z=true
theorem hold1_iff {s:List Int}{x:Fact}:hold1 s x=true↔0≤x.1∧x.1<s.length∧s.getD x.1.toNat 0=x.2:=by
 simp only[hold1,bA_,decide_eq_true_iff,beq_iff_eq]
theorem holdsF_iff {s:List Int}{l:List Fact}:holdsF s l=true↔∀ x∈l,hold1 s x=true:=by rw[holdsF,List.all_eq_true]
theorem holds_joinO {s:List Int}{a b z:List Fact}(h:joinO a b=some z):holdsF s z=true↔holdsF s a=true∧holdsF s b=true:=by
 rw[holdsF_iff,holdsF_iff,holdsF_iff]
 have hm:=(joinO_some h).2
 constructor
 ·intro hz;exact⟨fun x hx=>hz x ((hm x).2 (Or.inl hx)),fun x hx=>hz x ((hm x).2 (Or.inr hx))⟩
 ·rintro⟨h1,h2⟩ x hx
  rcases(hm x).1 hx with h|h
  ·exact h1 x h
  ·exact h2 x h
theorem holds_compat {s:List Int}{l:List Fact}(h:holdsF s l=true):Compat l:=fun x hx y hy e=>by
 have h1:=hold1_iff.1 (holdsF_iff.1 h x hx)
 have h2:=hold1_iff.1 (holdsF_iff.1 h y hy)
 rw[← h1.2.2,← h2.2.2,e]
theorem some_joinLL {vars s:List Int}{a b:List (List Fact)}(ha:PropL vars a)(hb:PropL vars b):some1 s (joinLL a b)↔some1 s a∧some1 s b:=by
 constructor
 ·rintro⟨z,hz,hs⟩
  obtain⟨x,hx,y,hy,hj⟩:=(joinLL_mem z a b).1 hz
  obtain⟨h1,h2⟩:=(holds_joinO hj).1 hs
  exact⟨⟨x,hx,h1⟩,⟨y,hy,h2⟩⟩
 ·rintro⟨⟨x,hx,h1⟩,⟨y,hy,h2⟩⟩
  cases hj:joinO x y with
  | none =>
   refine absurd (holds_compat (s:=s) ?_) (joinO_none (propF_vF' (ha x hx)) (propF_vF' (hb y hy)) hj)
   rw[holdsF_iff]
   intro u hu
   rcases List.mem_append.1 hu with h|h
   ·exact holdsF_iff.1 h1 u h
   ·exact holdsF_iff.1 h2 u h
  | some z=>exact⟨z,(joinLL_mem z a b).2 ⟨x,hx,y,hy,hj⟩,(holds_joinO hj).2 ⟨h1,h2⟩⟩
theorem some_silF {vars s:List Int}(hs:StP vars s){w:List Fact}(hw:propF vars (-1) w=true):some1 s (silF vars w)↔¬ holdsF s w=true:=by
 obtain⟨hv,hr⟩:=(propF_iff vars w (-1)).1 hw
 have hn:=((vF_iff' w).1 hv).1
 constructor
 ·rintro⟨z,hz,h⟩ hw'
  obtain⟨f,hf,y,h1,h2,hne,rfl⟩:=silF_mem.1 hz
  have e1:=(hold1_iff.1 (holdsF_iff.1 h _ (mI_.2 rfl))).2.2
  have e2:=(hold1_iff.1 (holdsF_iff.1 hw' f hf)).2.2
  exact hne (e1.symm.trans e2)
 ·intro hw'
  rw[holdsF_iff]at hw'
  obtain⟨f,hf,hnf⟩:∃ f∈w,¬ hold1 s f=true:=by
   refine Classical.byContradiction fun hno=>hw' fun x hx=>Classical.byContradiction fun hx'=>hno ⟨x,hx,hx'⟩
  have h1:=hn f hf
  have h2:=hr f hf
  have hlen:=hs.len
  obtain⟨g1,g2⟩:=hs.rng f.1.toNat (by omega)
  refine⟨[(f.1,s.getD f.1.toNat 0)],silF_mem.2 ⟨f,hf,_,g1,by omega,fun e=>hnf (hold1_iff.2 ⟨h1.1,by omega,e⟩),rfl⟩,?_⟩
  rw[holdsF_iff]
  intro x hx
  rw[mI_.1 hx]
  exact hold1_iff.2 ⟨h1.1,by show f.1<_;omega,rfl⟩
def quietP (s:List Int)(f:Fact)(es:List GEffect):Prop:=∀ e∈es,e.Val≠f.2→¬ holdsF s e.When=true
theorem some_quietG {vars s:List Int}(hs:StP vars s){f:Fact}:∀ {es:List GEffect}{l j:List (List Fact)},WhenP vars es→PropL vars l→quietG vars f es l=some j→(some1 s j↔some1 s l∧quietP s f es)
 | [],l,j,_,_,h=>by
  rw[quietG]at h;obtain rfl:=sI_ h
  exact⟨fun h=>⟨h,fun _ h=>nomatch h⟩,fun h=>h.1⟩
 | e :: r,l,j,he,hl,h=>by
  have he':WhenP vars r:=fun u hu=>he u (mC_ _ hu)
  have hq0:quietP s f (e :: r)↔(e.Val≠f.2→¬ holdsF s e.When=true)∧quietP s f r:=by
   unfold quietP
   constructor
   ·intro h;exact⟨h e (mS_ ..),fun u hu=>h u (mC_ _ hu)⟩
   ·rintro⟨h1,h2⟩ u hu
    rcases List.mem_cons.1 hu with rfl|hu
    ·exact h1
    ·exact h2 u hu
  rw[hq0]
  rw[quietG]at h
  split at h
  ·rename_i hv
   rw[some_quietG hs he' hl h]
   constructor
   ·rintro⟨h1,h2⟩;exact⟨h1,fun hn=>absurd hv hn,h2⟩
   ·rintro⟨h1,-,h2⟩;exact⟨h1,h2⟩
  ·rename_i hv
   have hw:=he e (mS_ ..)
   cases hq:capO (silF vars e.When)with
   | none=>rw[hq]at h;cases h
   | some q =>
    rw[hq,oB_]at h
    cases hj:capO (joinLL l q)with
    | none=>rw[hj]at h;cases h
    | some m =>
     rw[hj,oB_]at h
     obtain⟨rfl,-⟩:=capO_some hq
     obtain⟨rfl,-⟩:=capO_some hj
     have hsp:=silF_prop hw
     rw[some_quietG hs he' (joinLL_prop hl hsp) h,some_joinLL hl hsp,some_silF hs hw]
     constructor
     ·rintro⟨⟨h1,h2⟩,h3⟩;exact⟨h1,fun _=>h2,h3⟩
     ·rintro⟨h1,h2,h3⟩;exact⟨⟨h1,h2 hv⟩,h3⟩
theorem some_foldN {s:List Int}{l out:List (List Fact)}:some1 s (l.foldl addN out)↔some1 s out∨some1 s l:=by
 unfold some1
 constructor
 ·rintro⟨z,hz,h⟩
  rcases(foldN_mem z l out).1 hz with h'|h'
  ·exact Or.inl ⟨z,h',h⟩
  ·exact Or.inr ⟨z,h',h⟩
 ·rintro(⟨z,hz,h⟩|⟨z,hz,h⟩)
  ·exact⟨z,(foldN_mem z l out).2 (Or.inl hz),h⟩
  ·exact⟨z,(foldN_mem z l out).2 (Or.inr hz),h⟩
def finF (s:List Int):List GEffect→Int→Int
 | [],a=>a
 | e :: r,a=>finF s r (if holdsF s e.When=true then e.Val else a)
theorem some_one {s:List Int}{x:List Fact}:some1 s [x]↔holdsF s x=true:=by
 unfold some1
 constructor
 ·rintro⟨z,hz,h⟩;rw[mI_.1 hz]at h;exact h
 ·intro h;exact⟨x,mI_.2 rfl,h⟩
theorem some_casesG {vars s:List Int}(hs:StP vars s){f:Fact}:∀ {es:List GEffect}{out:List (List Fact)},WhenP vars es→casesG vars f es=some out→∀ a:Int,(finF s es a=f.2↔some1 s out∨(a=f.2∧quietP s f es))
 | [],out,_,h,a=>by
  rw[casesG]at h;obtain rfl:=sI_ h
  rw[finF]
  constructor
  ·intro h;exact Or.inr ⟨h,fun _ h=>nomatch h⟩
  ·rintro(⟨z,hz,-⟩|h)
   ·cases hz
   ·exact h.1
 | e :: r,out,he,h,a=>by
  have he':WhenP vars r:=fun u hu=>he u (mC_ _ hu)
  have hq0:quietP s f (e :: r)↔(e.Val≠f.2→¬ holdsF s e.When=true)∧quietP s f r:=by
   unfold quietP
   constructor
   ·intro h;exact⟨h e (mS_ ..),fun u hu=>h u (mC_ _ hu)⟩
   ·rintro⟨h1,h2⟩ u hu
    rcases List.mem_cons.1 hu with rfl|hu
    ·exact h1
    ·exact h2 u hu
  rw[casesG]at h
  cases hr:casesG vars f r with
  | none=>rw[hr]at h;cases h
  | some o1 =>
   rw[hr,oB_]at h
   rw[finF,some_casesG hs he' hr,hq0]
   split at h
   ·rename_i hv
    cases hq:quietG vars f r [e.When]with
    | none=>rw[hq]at h;cases h
    | some q =>
     rw[hq,Option.map_some]at h
     obtain rfl:=sI_ h
     rw[some_foldN,some_quietG hs he' (fun x hx=>by rw[mI_.1 hx];exact he e (mS_ ..)) hq,some_one]
     by_cases hf:holdsF s e.When=true
     ·simp only[hf,if_true,hv]
      constructor
      ·rintro(h|⟨-,h⟩)
       ·exact Or.inl (Or.inl h)
       ·exact Or.inl (Or.inr ⟨trivial,h⟩)
      ·rintro((h|⟨-,h⟩)|⟨-,-,h⟩)
       ·exact Or.inl h
       ·exact Or.inr ⟨trivial,h⟩
       ·exact Or.inr ⟨trivial,h⟩
     ·simp only[hf,hv]
      constructor
      ·rintro(h|⟨h1,h2⟩)
       ·exact Or.inl (Or.inl h)
       ·exact Or.inr ⟨by simpa using h1,fun h=>absurd rfl h,h2⟩
      ·rintro((h|⟨h,-⟩)|⟨h1,-,h2⟩)
       ·exact Or.inl h
       ·cases h
       ·exact Or.inr ⟨by simpa using h1,h2⟩
   ·rename_i hv
    obtain rfl:=sI_ h
    by_cases hf:holdsF s e.When=true
    ·rw[if_pos hf]
     constructor
     ·rintro(h|⟨h,-⟩)
      ·exact Or.inl h
      ·exact absurd h hv
     ·rintro(h|⟨-,h,-⟩)
      ·exact Or.inl h
      ·exact absurd hf (h hv)
    ·rw[if_neg hf]
     constructor
     ·rintro(h|⟨h1,h2⟩)
      ·exact Or.inl h
      ·exact Or.inr ⟨h1,fun _=>hf,h2⟩
     ·rintro(h|⟨h1,-,h2⟩)
      ·exact Or.inl h
      ·exact Or.inr ⟨h1,h2⟩
def valF (s:List Int)(o:GOp)(v:Int):Int:=finF s (o.Effs.filter (fun e=>e.Var == v)) (s.getD v.toNat 0)
theorem some_casesO {vars s:List Int}(hs:StP vars s){o:GOp}(hw:WhenP vars o.Effs){f:Fact}(hf:propF vars (-1) [f]=true){c:List (List Fact)}(h:casesO vars o f=some c):some1 s c↔valF s o f.1=f.2:=by
 unfold casesO at h
 unfold valF
 have hw':WhenP vars (o.Effs.filter (fun e=>e.Var == f.1)):=fun e he=>hw e (List.mem_filter.1 he).1
 generalize o.Effs.filter (fun e=>e.Var == f.1)=es at h hw'
 unfold casesE at h
 cases hg:casesG vars f es with
 | none=>rw[hg]at h;cases h
 | some out =>
  rw[hg,oB_]at h
  cases hq:quietG vars f es [[f]]with
  | none=>rw[hq]at h;cases h
  | some q =>
   rw[hq,Option.map_some,oB_]at h
   obtain⟨rfl,-⟩:=capO_some h
   have hfp:PropL vars [[f]]:=fun x hx=>by rw[mI_.1 hx];exact hf
   rw[some_casesG hs hw' hg,some_foldN,some_quietG hs hw' hfp hq,some_one]
   obtain⟨hv,hr⟩:=(propF_iff vars _ (-1)).1 hf
   have hn:=((vF_iff' _).1 hv).1 f (mI_.2 rfl)
   have hr':=hr f (mI_.2 rfl)
   have hlen:=hs.len
   have e:holdsF s [f]=true↔s.getD f.1.toNat 0=f.2:=by
    rw[holdsF_iff]
    constructor
    ·intro h;exact(hold1_iff.1 (h f (mI_.2 rfl))).2.2
    ·intro h x hx;rw[mI_.1 hx];exact hold1_iff.2 ⟨hn.1,by omega,h⟩
   rw[e]
theorem some_regG {vars s:List Int}(hs:StP vars s){o:GOp}(hw:WhenP vars o.Effs):∀ {p:List Fact}{l j:List (List Fact)},(∀ f∈p,propF vars (-1) [f]=true)→PropL vars l→regG vars o p l=some j→(some1 s j↔some1 s l∧∀ f∈p,valF s o f.1=f.2)
 | [],l,j,_,_,h=>by
  rw[regG]at h;obtain rfl:=sI_ h
  exact⟨fun h=>⟨h,fun _ h=>nomatch h⟩,fun h=>h.1⟩
 | f :: r,l,j,hf,hl,h=>by
  rw[regG]at h
  have hf1:=hf f (mS_ ..)
  cases hc:casesO vars o f with
  | none=>rw[hc]at h;cases h
  | some c =>
   rw[hc,oB_]at h
   cases hj:capO (joinLL l c)with
   | none=>rw[hj]at h;cases h
   | some m =>
    rw[hj,oB_]at h
    obtain⟨rfl,-⟩:=capO_some hj
    have hcp:=(casesO_prop hw hf1 hc).1
    rw[some_regG hs hw (fun u hu=>hf u (mC_ _ hu)) (joinLL_prop hl hcp) h,some_joinLL hl hcp,some_casesO hs hw hf1 hc]
    constructor
    ·rintro⟨⟨h1,h2⟩,h3⟩
     refine⟨h1,fun u hu=>?_⟩
     rcases List.mem_cons.1 hu with rfl|hu
     ·exact h2
     ·exact h3 u hu
    ·rintro⟨h1,h2⟩
     exact⟨⟨h1,h2 f (mS_ ..)⟩,fun u hu=>h2 u (mC_ _ hu)⟩
theorem below_min {l:List (List Fact)}(hl:∀ x∈l,Asc x):∀ (n:Nat)(z:List Fact),z.length≤n→z∈l→∃ x∈minF l,∀ w∈x,w∈z
 | 0,z,hn,hz=>by
  refine⟨z,List.mem_filter.2 ⟨hz,?_⟩,fun _ h=>h⟩
  rw[keepF,List.all_eq_true]
  intro y hy
  obtain rfl:z=[]:=List.length_eq_zero_iff.1 (by omega)
  cases y with
  | nil=>simp
  | cons a b=>simp[subF]
 | n+1,z,hn,hz=>by
  by_cases hk:keepF l z=true
  ·exact⟨z,List.mem_filter.2 ⟨hz,hk⟩,fun _ h=>h⟩
  ·rw[keepF,List.all_eq_true]at hk
   obtain⟨y,hy,hyz⟩:∃ y∈l,(subF y z&&decide (y≠z))=true:=by
    refine Classical.byContradiction fun hno=>hk fun y hy=>?_
    cases h:(subF y z&&decide (y≠z))with
    | false=>rfl
    | true=>exact absurd ⟨y,hy,h⟩ hno
   rw[bA_,decide_eq_true_iff]at hyz
   have hs:=subF_iff.1 hyz.1
   obtain⟨h1,h2⟩:=sub_len (hl z hz) (hl y hy) hs
   have:y.length≠z.length:=fun e=>hyz.2 (h2 e)
   obtain⟨x,hx,hxy⟩:=below_min hl n y (by omega) hy
   exact⟨x,hx,fun w hw=>hs w (hxy w hw)⟩
theorem some_min {s:List Int}{l:List (List Fact)}(hl:∀ x∈l,Asc x):some1 s (sortLL (minF l))↔some1 s l:=by
 constructor
 ·rintro⟨z,hz,h⟩
  exact⟨z,(List.mem_filter.1 ((sortLL_mem z _).1 hz)).1,h⟩
 ·rintro⟨z,hz,h⟩
  obtain⟨x,hx,hxz⟩:=below_min hl z.length z (Nat.le_refl _) hz
  exact⟨x,(sortLL_mem x _).2 hx,holdsF_iff.2 fun w hw=>holdsF_iff.1 h w (hxz w hw)⟩
theorem some_regO {t:GTask}(hgood:goodF t=true){o:GOp}(ho:o∈t.Ops){s:List Int}(hs:StP t.Vars s){p:List Fact}(hp:propF t.Vars (-1) p=true){l:List (List Fact)}(h:regO t.Vars o p=some l):some1 s l↔holdsF s o.Pre=true∧∀ f∈p,valF s o f.1=f.2:=by
 unfold regO at h
 cases hr:regG t.Vars o p [o.Pre]with
 | none=>rw[hr]at h;cases h
 | some m =>
  rw[hr,Option.map_some]at h
  obtain rfl:=sI_ h
  have hm:=(pre_prop hgood hp ho hr).1
  have oo:=good_op hgood ho
  rw[some_min (fun x hx=>((vF_iff' x).1 (propF_vF' (hm x hx))).2),some_regG hs oo.when (fun f hf=>propF_one hp hf) (fun x hx=>by rw[mI_.1 hx];exact oo.pre) hr,some_one]
def extF (s:List Int):Nat→Int→List (List Int)
 | 0,_=>[]
 | m+1,i=>(s++[i]) :: extF s m (i+1)
def statesG : List Int→List (List Int)→List (List Int)
 | [],out=>out
 | k :: r,out=>statesG r (out.flatMap fun s=>extF s k.toNat 0)
theorem extF_len (s:List Int):∀ (m:Nat)(i:Int),(extF s m i).length=m
 | 0,_=>rfl
 | m+1,i=>by rw[extF,lC_,extF_len s m]
theorem extF_mem (s z:List Int):∀ (m:Nat)(i:Int),z∈extF s m i↔∃ x:Int,i≤x∧x<i+m∧z=s++[x]
 | 0,i=>by rw[extF];constructor;exact(nofun);rintro⟨y,h1,h2,-⟩;omega
 | m+1,i=>by
  rw[extF,List.mem_cons,extF_mem s z m]
  constructor
  ·rintro(h|⟨x,h1,h2,h3⟩)
   ·exact⟨i,Int.le_refl _,by omega,h⟩
   ·exact⟨x,by omega,by omega,h3⟩
  ·rintro⟨x,h1,h2,h3⟩
   rcases Int.lt_or_eq_of_le h1 with h|rfl
   ·exact Or.inr ⟨x,by omega,by omega,h3⟩
   ·exact Or.inl h3
theorem flat_ext_len (m:Nat):∀ l:List (List Int),(l.flatMap fun s=>extF s m 0).length=l.length*m
 | []=>by simp
 | s :: r=>by rw[List.flatMap_cons,lA_,extF_len,flat_ext_len m r,lC_,Nat.succ_mul];omega
theorem states1 (d:Int)(s:List Int)(hs:s.length≤1000):∀ (m n:Nat)(v:List (List Int)),v.length+m≤1000000→Rn (M_b_States_L1_B d s) (M_b_States_L1_E d s) m n v=some (v++extF s m n)
 | 0,n,v,h=>by rw[Rn,M_b_States_L1_E,extF,List.append_nil]
 | m+1,n,v,h=>by
  rw[Rn,M_b_States_L1_B,grd_t (by omega),grd_t (by omega),grd_t (by omega),grd_t (by omega),extF]
  have ih:=states1 d s hs m (n+1) (v++[s++[(n:Int)]]) (by rw[lA_,List.length_singleton];omega)
  rw[List.append_assoc,List.singleton_append]at ih
  exact ih
theorem states2 (q:List (List Int))(d:Int)(hd:0≤d∧d≤1000):∀ (r:List (List Int))(i:Int)(v:List (List Int)),(∀ s∈r,s.length≤1000)→v.length+r.length*d.toNat≤1000000 →
  Rg (M_b_States_L2_B q d) (M_b_States_L2_E q d) r i v=some (v++r.flatMap fun s=>extF s d.toNat 0)
 | [],i,v,_,_=>by rw[Rg,M_b_States_L2_E,List.flatMap_nil,List.append_nil]
 | s :: r,i,v,hs,h=>by
  rw[lC_,Nat.succ_mul]at h
  have h1:=states1 d s (hs s (mS_ ..)) d.toNat 0 v (by omega)
  rw[show((0:Nat):Int)=0 from rfl]at h1
  rw[Rg,M_b_States_L2_B,ixv,M_b_States_L1_eq d s v (m:=d.toNat) (by omega) (by omega),h1,ob1_some,states2 q d hd r _ _ (fun u hu=>hs u (mC_ _ hu)) (by rw[lA_,extF_len];omega),List.flatMap_cons,List.append_assoc]
theorem states3 (vars:List Int):∀ (r:List Int)(i:Int)(out:List (List Int))(c:Nat),(∀ k∈r,1≤k∧k≤64)→(∀ s∈out,s.length≤c)→c+r.length≤1000→0<out.length→out.length≤512→manyF 512 r out.length≤512 →
  Rg (M_b_States_L3_B vars) (M_b_States_L3_E vars) r i out=some (statesG r out)
 | [],i,out,c,_,_,_,_,_,_=>rfl
 | k :: r,i,out,c,hk,hs,hc,h0,hl,hm=>by
  obtain⟨k1,k2⟩:=hk k (mS_ ..)
  rw[lC_]at hc
  have hmin:min (max k 0) (512+1)=k:=by omega
  rw[manyF,hmin]at hm
  have hb:¬ ((out.length:Int)*k>512):=fun h=>by rw[if_pos h]at hm;omega
  rw[if_neg hb]at hm
  obtain⟨m,rfl⟩:∃ m:Nat,k=m:=⟨k.toNat,by omega⟩
  have hlen:(out.flatMap fun s=>extF s m 0).length=out.length*m:=flat_ext_len m out
  have hcast:(out.length:Int)*(m:Int)=((out.length*m:Nat):Int):=by rw[Int.natCast_mul]
  have h2:=states2 out (m:Int) (by omega) out 0 [] (fun s hs'=>by have:=hs s hs';omega) (by rw[Int.toNat_natCast];simp;omega)
  rw[List.nil_append,Int.toNat_natCast]at h2
  rw[Rg,M_b_States_L3_B,ixv,M_b_States_L2_eq out (m:Int) [] (by omega),h2,ob1_some,grd_t (by rw[hlen];omega),statesG,Int.toNat_natCast]
  refine states3 vars r _ _ (c+1) (fun u hu=>hk u (mC_ _ hu)) (fun s hs'=>?_) (by omega) (by rw[hlen];exact Nat.mul_pos h0 (by omega)) (by rw[hlen];omega) (by rw[hlen,← hcast];exact hm)
  obtain⟨u,hu,hsu⟩:=List.mem_flatMap.1 hs'
  obtain⟨x,-,-,rfl⟩:=(extF_mem u s m 0).1 hsu
  have:=hs u hu
  rw[lA_,List.length_singleton];omega
theorem statesG_mem : ∀ (r:List Int)(out:List (List Int))(z:List Int),z∈statesG r out↔∃ s∈out,∃ t,z=s++t∧stateF r t=true
 | [],out,z=>by
  rw[statesG]
  constructor
  ·intro h;exact⟨z,h,[],(List.append_nil z).symm,rfl⟩
  ·rintro⟨s,hs,t,rfl,ht⟩
   cases t with
   | nil=>rw[List.append_nil];exact hs
   | cons a b=>simp[stateF]at ht
 | k :: r,out,z=>by
  rw[statesG,statesG_mem r]
  constructor
  ·rintro⟨s,hs,t,rfl,ht⟩
   obtain⟨u,hu,hsu⟩:=List.mem_flatMap.1 hs
   obtain⟨x,h1,h2,rfl⟩:=(extF_mem u s _ 0).1 hsu
   refine⟨u,hu,x :: t,by rw[List.append_assoc,List.singleton_append],?_⟩
   simp only[stateF,ht,Bool.and_true,decide_eq_true_iff]
   omega
  ·rintro⟨s,hs,t,rfl,ht⟩
   cases t with
   | nil=>simp[stateF]at ht
   | cons x t =>
    simp only[stateF,bA_,decide_eq_true_iff]at ht
    refine⟨s++[x],List.mem_flatMap.2 ⟨s,hs,(extF_mem s _ _ 0).2 ⟨x,by omega,by omega,rfl⟩⟩,t,by rw[List.append_assoc,List.singleton_append],?_⟩
    first|exact ht.2|exact ht.2.2
def allF (t:GTask):List (List Int):=statesG t.Vars [[]]
theorem allF_mem (t:GTask)(s:List Int):s∈allF t↔stateF t.Vars s=true:=by
 rw[allF,statesG_mem]
 constructor
 ·rintro⟨u,hu,v,rfl,h⟩
  rw[mI_.1 hu,List.nil_append];exact h
 ·intro h;exact⟨[],mI_.2 rfl,s,rfl,h⟩
theorem states_eq (t:GTask)(hs:smallF t=true):M_b_States t.Vars=some (allF t):=by
 obtain⟨hgood,hv,-⟩:=small_good hs
 have hm:manyF 512 t.Vars 1≤512:=by
  unfold smallF at hs
  simp only[bA_,decide_eq_true_iff]at hs
  exact hs.2.2.2
 have hk:∀ k∈t.Vars,1≤k∧k≤64:=by
  unfold goodF at hgood
  simp only[bA_,decide_eq_true_iff,List.all_eq_true]at hgood
  exact hgood.2.1
 rw[M_b_States,M_b_States_L3_eq t.Vars [[]] (by omega)]
 exact states3 t.Vars t.Vars 0 [[]] 0 hk (fun s hs=>by rw[mI_.1 hs];exact Nat.le_refl _) (by omega) (by decide) (by decide) hm
theorem statesG_len : ∀ (r:List Int)(out:List (List Int)),(∀ k∈r,1≤k∧k≤64)→out.length≤512→manyF 512 r out.length≤512→(statesG r out).length≤512
 | [],out,_,hl,_=>hl
 | k :: r,out,hk,hl,hm=>by
  obtain⟨k1,k2⟩:=hk k (mS_ ..)
  have hmin:min (max k 0) (512+1)=k:=by omega
  rw[manyF,hmin]at hm
  have hb:¬ ((out.length:Int)*k>512):=fun h=>by rw[if_pos h]at hm;omega
  rw[if_neg hb]at hm
  obtain⟨m,rfl⟩:∃ m:Nat,k=m:=⟨k.toNat,by omega⟩
  have hlen:(out.flatMap fun s=>extF s m 0).length=out.length*m:=flat_ext_len m out
  have hcast:(out.length:Int)*(m:Int)=((out.length*m:Nat):Int):=by rw[Int.natCast_mul]
  rw[statesG,Int.toNat_natCast]
  exact statesG_len r _ (fun u hu=>hk u (mC_ _ hu)) (by rw[hlen];omega) (by rw[hlen,← hcast];exact hm)
theorem allF_len (t:GTask)(hs:smallF t=true):(allF t).length≤512:=by
 obtain⟨hgood,hv,-⟩:=small_good hs
 have hm:manyF 512 t.Vars 1≤512:=by
  unfold smallF at hs
  simp only[bA_,decide_eq_true_iff]at hs
  exact hs.2.2.2
 have hk:∀ k∈t.Vars,1≤k∧k≤64:=by
  unfold goodF at hgood
  simp only[bA_,decide_eq_true_iff,List.all_eq_true]at hgood
  exact hgood.2.1
 exact statesG_len t.Vars [[]] hk (by decide) hm
theorem stateF_st : ∀ {v s:List Int},stateF v s=true→StP v s
 | [],[],_=>⟨rfl,fun i h=>by simp at h⟩
 | [],_ :: _,h=>by simp[stateF]at h
 | _ :: _,[],h=>by simp[stateF]at h
 | n :: r,x :: s,h=>by
  simp only[stateF,bA_,decide_eq_true_iff]at h
  have ih:=stateF_st h.2
  refine⟨by rw[lC_,lC_,ih.len],fun i hi=>?_⟩
  cases i with
  | zero=>simpa using h.1
  | succ i=>simpa using ih.rng i (by simpa using hi)
def applyG (s:List Int):List GEffect→List Int→List Int
 | [],v=>v
 | e :: r,v=>applyG s r (if holdsF s e.When=true then v.set e.Var.toNat e.Val else v)
theorem apply_loop (s:List Int)(o:GOp):∀ (r:List GEffect)(i:Int)(v:List Int),(∀ e∈r,Sh e.When∧0≤e.Var∧e.Var<v.length)→v.length≤1000→Rg (M_b_Apply_L1_B s o) (M_b_Apply_L1_E s o) r i v=some (applyG s r v,true)
 | [],i,v,_,h=>by rw[Rg,M_b_Apply_L1_E,grd_t (by omega),applyG]
 | e :: r,i,v,he,h=>by
  obtain⟨h1,h2,h3⟩:=he e (mS_ ..)
  have he':∀ u∈r,Sh u.When∧0≤u.Var∧u.Var<v.length:=fun u hu=>he u (mC_ _ hu)
  rw[Rg,M_b_Apply_L1_B,ixv,holds_eq _ s h1,ob1_some,applyG]
  by_cases hf:holdsF s e.When=true
  ·obtain⟨y,hy,-⟩:=drop_at (l:=v) (n:=e.Var.toNat) (by omega)
   rw[hf,sel_tt,if_pos rfl,ixn_at hy,grd_t h2,grd_t h3]
   exact apply_loop s o r _ _ (by rw[List.length_set];exact he') (by rw[List.length_set];exact h)
  ·rw[if_neg hf,Bool.eq_false_iff.2 hf,sel_ff]
   exact apply_loop s o r _ v he' h
theorem applyG_get (s:List Int)(x:Int)(hx:0≤x):∀ (r:List GEffect)(v:List Int),(∀ e∈r,0≤e.Var∧e.Var<v.length)→(applyG s r v).getD x.toNat 0=finF s (r.filter (fun e=>e.Var == x)) (v.getD x.toNat 0)
 | [],v,_=>rfl
 | e :: r,v,he=>by
  obtain⟨h2,h3⟩:=he e (mS_ ..)
  have he':∀ u∈r,0≤u.Var∧u.Var<v.length:=fun u hu=>he u (mC_ _ hu)
  rw[applyG]
  have hset:∀ w,(v.set e.Var.toNat w).length=v.length:=fun w=>List.length_set
  by_cases hv:e.Var=x
  ·rw[List.filter_cons_of_pos (by simp[hv]),finF]
   by_cases hf:holdsF s e.When=true
   ·rw[if_pos hf,if_pos hf,applyG_get s x hx r _ (by rw[hset];exact he')]
    congr 1
    rw[← hv,gD_,List.getElem?_set_self (by omega),Option.getD_some]
   ·rw[if_neg hf,if_neg hf,applyG_get s x hx r v he']
  ·rw[List.filter_cons_of_neg (by simp[hv])]
   by_cases hf:holdsF s e.When=true
   ·rw[if_pos hf,applyG_get s x hx r _ (by rw[hset];exact he')]
    congr 1
    rw[gD_,List.getElem?_set_ne (by omega),← gD_]
   ·rw[if_neg hf,applyG_get s x hx r v he']
theorem applyG_len (s:List Int):∀ (r:List GEffect)(v:List Int),(applyG s r v).length=v.length
 | [],v=>rfl
 | e :: r,v=>by rw[applyG,applyG_len s r];split <;> simp
theorem good_eff {t:GTask}(h:goodF t=true){o:GOp}(ho:o∈t.Ops){e:GEffect}(he:e∈o.Effs):0≤e.Var∧e.Var<t.Vars.length∧0≤e.Val∧e.Val<t.Vars.getD e.Var.toNat 0:=by
 unfold goodF at h
 simp only[bA_,List.all_eq_true]at h
 have h1:=h.2.2.2.2 o ho
 unfold opF at h1
 simp only[bA_,decide_eq_true_iff,List.all_eq_true]at h1
 have h2:=h1.2.2.2 e he
 unfold effF at h2
 have h3:=(bA_ _ _ ▸ h2).2
 obtain⟨hv,hr⟩:=(propF_iff t.Vars _ (-1)).1 h3
 have hn:=((vF_iff' _).1 hv).1 _ (mI_.2 rfl)
 have hr':=hr _ (mI_.2 rfl)
 exact⟨hn.1,hr'.1,hn.2,hr'.2⟩
def nextF (s:List Int)(o:GOp):List Int:=applyG s o.Effs s
theorem apply_eq (t:GTask)(hgood:goodF t=true)(s:List Int)(hs:StP t.Vars s)(j:Nat)(o:GOp)(hj:t.Ops[j]?=some o) :
  M_b_Apply t s (j:Int)=some (if holdsF s o.Pre=true then(nextF s o,true)else([],false)):=by
 have ok:=good_ok hgood
 have hom:=mG_ hj
 have oo:=good_op hgood hom
 have hlt:=lt_some hj
 have hlen:=hs.len
 have okl:=ok.len
 have he:=oo.effs
 rw[M_b_Apply,sel_dec,if_neg (by omega),sel_dec,if_neg (by rw[lM_];omega),ix_at hj,holds_eq _ s (prop_sh ok.len oo.pre),ob1_some]
 by_cases hf:holdsF s o.Pre=true
 ·rw[hf,Bool.not_true,sel_ff,ob1_some,osum_inl,grd_t (by omega),ix_at hj,M_b_Apply_L1_eq s o s (by omega),apply_loop s o o.Effs 0 s (fun e he=>⟨prop_sh ok.len (oo.when e he),by have:=good_eff hgood hom he;omega,by have:=good_eff hgood hom he;omega⟩) (by omega),if_pos rfl,nextF]
 ·rw[if_neg hf,Bool.eq_false_iff.2 hf,Bool.not_false,sel_tt,ob1_some,osum_inr]
theorem holds_next {t:GTask}(hgood:goodF t=true){s:List Int}(hs:StP t.Vars s){o:GOp}(ho:o∈t.Ops){p:List Fact}(hp:propF t.Vars (-1) p=true):holdsF (nextF s o) p=true↔∀ f∈p,valF s o f.1=f.2:=by
 obtain⟨hv,hr⟩:=(propF_iff t.Vars p (-1)).1 hp
 have hn:=((vF_iff' p).1 hv).1
 have hlen:=hs.len
 rw[holdsF_iff]
 have key:∀ f∈p,(hold1 (nextF s o) f=true↔valF s o f.1=f.2):=fun f hf=>by
  have h1:=hn f hf
  have h2:=hr f hf
  rw[hold1_iff,nextF,applyG_get s f.1 h1.1 o.Effs s (fun e he=>by have:=good_eff hgood ho he;omega),applyG_len]
  constructor
  ·intro h;exact h.2.2
  ·intro h;exact⟨h1.1,by omega,h⟩
 exact⟨fun h f hf=>(key f hf).1 (h f hf),fun h f hf=>(key f hf).2 (h f hf)⟩
def fillF (x:List Fact):Int→List Int→List Int
 | _,[]=>[]
 | i,_ :: r=>max 0 (findF x i) :: fillF x (i+1) r
theorem fill_state {vars:List Int}(hd:∀ n∈vars,1≤n){x:List Fact}(hx:∀ f∈x,0≤f.2∧0≤f.1∧f.1<vars.length∧f.2<vars.getD f.1.toNat 0):∀ (r:List Int)(n:Nat),vars.drop n=r→stateF r (fillF x n r)=true
 | [],n,_=>rfl
 | k :: r,n,h=>by
  obtain⟨h1,h2,h3⟩:=drop_cons h
  have hk:=hd k (mG_ h1)
  rw[fillF,stateF,bA_,decide_eq_true_iff]
  refine⟨⟨by omega,?_⟩,fill_state hd hx r (n+1) h2⟩
  have:findF x n=-1∨∃ f∈x,f.1=n∧findF x n=f.2:=by
   clear hx
   induction x with
   | nil=>exact Or.inl rfl
   | cons f x ih =>
    rw[findF]
    by_cases e:f.1=n
    ·rw[if_pos e];exact Or.inr ⟨f,mS_ ..,e,rfl⟩
    ·rw[if_neg e]
     rcases ih with h|⟨u,hu,h⟩
     ·exact Or.inl h
     ·exact Or.inr ⟨u,mC_ _ hu,h⟩
  rcases this with h|⟨f,hf,e1,e2⟩
  ·rw[h];omega
  ·have h4:=(hx f hf).2.2.2
   rw[e1,Int.toNat_natCast,gD_,h1,Option.getD_some]at h4
   omega
theorem fill_get (x:List Fact):∀ (r:List Int)(n:Int)(i:Nat),i<r.length→(fillF x n r).getD i 0=max 0 (findF x (n+i))
 | [],n,i,h=>by cases h
 | k :: r,n,0,h=>by simp[fillF]
 | k :: r,n,i+1,h=>by
  rw[fillF,List.getD_cons_succ,fill_get x r (n+1) i (by simpa using h)]
  congr 2;omega
theorem fill_holds {vars:List Int}{x:List Fact}(hx:propF vars (-1) x=true):holdsF (fillF x 0 vars) x=true:=by
 obtain⟨hv,hr⟩:=(propF_iff vars x (-1)).1 hx
 obtain⟨hn,ha⟩:=(vF_iff' x).1 hv
 have hlen:∀ (r:List Int) (i:Int),(fillF x i r).length=r.length:=by
  intro r;induction r with
  | nil=>intro i;rfl
  | cons k r ih=>intro i;rw[fillF,lC_,ih,lC_]
 rw[holdsF_iff]
 intro f hf
 have h1:=hn f hf
 have h2:=hr f hf
 refine hold1_iff.2 ⟨h1.1,by rw[hlen];exact h2.1,?_⟩
 rw[fill_get x vars 0 f.1.toNat (by omega),show(0:Int)+(f.1.toNat:Int)=f.1 from by omega,(findF_mem ha h1.2).2 hf]
 omega
def clashP (p x:List Fact):Bool:=x.any fun f=>decide (0≤findF p f.1)&&decide (findF p f.1≠f.2)
def lowF (p:List Fact):List Fact→Int→Int
 | [],v=>v
 | f :: r,v=>lowF p r (if f.1<v∧findF p f.1<0 then f.1 else v)
def lowL (p:List Fact):List (List Fact)→Int→Int
 | [],v=>v
 | x :: r,v=>lowL p r (lowF p x v)
def kids (f:Int→Bool×Int):Nat→Int→Int→Bool×Int
 | 0,_,c=>(true,c)
 | m+1,x,c=>if(f x).1=true then kids f m (x+1) (c+(f x).2)else(false,c+(f x).2)
def restP (p:List Fact)(l:List (List Fact)):List (List Fact):=l.filter fun x=>!clashP p x
def decA (vars:List Int):Nat→List Fact→List (List Fact)→Bool×Int
 | 0,_,_=>(false,1)
 | d+1,p,l =>
  if l.any (fun x=>subF x p)then(true,1)
  else if lowL p (restP p l) vars.length=vars.length then(false,1)
  else kids (fun x=>decA vars d (pwithF p (lowL p (restP p l) vars.length,x)) (restP p l)) (vars.getD (lowL p (restP p l) vars.length).toNat 0).toNat 0 1
theorem lowF_spec (p:List Fact):∀ (l:List Fact)(v:Int),lowF p l v≤v∧(∀ f∈l,findF p f.1<0→lowF p l v≤f.1)∧(lowF p l v=v∨∃ f∈l,f.1=lowF p l v∧findF p f.1<0)
 | [],v=>⟨Int.le_refl _,(nofun),.inl rfl⟩
 | f :: r,v=>by
  rw[lowF]
  by_cases h:f.1<v∧findF p f.1<0
  ·rw[if_pos h]
   obtain⟨h1,h2,h3⟩:=lowF_spec p r f.1
   refine⟨by omega,fun u hu hn=>?_,?_⟩
   ·rcases List.mem_cons.1 hu with rfl|hu
    ·exact h1
    ·exact h2 u hu hn
   ·rcases h3 with h3|⟨u,hu,e⟩
    ·exact .inr ⟨f,mS_ ..,h3.symm,h.2⟩
    ·exact .inr ⟨u,mC_ _ hu,e⟩
  ·rw[if_neg h]
   obtain⟨h1,h2,h3⟩:=lowF_spec p r v
   refine⟨h1,fun u hu hn=>?_,?_⟩
   ·rcases List.mem_cons.1 hu with rfl|hu
    ·have:¬ u.1<v:=fun hlt=>h ⟨hlt,hn⟩
     omega
    ·exact h2 u hu hn
   ·rcases h3 with h3|⟨u,hu,e⟩
    ·exact .inl h3
    ·exact .inr ⟨u,mC_ _ hu,e⟩
theorem lowL_spec (p:List Fact):∀ (l:List (List Fact))(v:Int),lowL p l v≤v∧(∀ x∈l,∀ f∈x,findF p f.1<0→lowL p l v≤f.1)∧(lowL p l v=v∨∃ x∈l,∃ f∈x,f.1=lowL p l v∧findF p f.1<0)
 | [],v=>⟨Int.le_refl _,(nofun),.inl rfl⟩
 | x :: r,v=>by
  rw[lowL]
  obtain⟨g1,g2,g3⟩:=lowF_spec p x v
  obtain⟨h1,h2,h3⟩:=lowL_spec p r (lowF p x v)
  refine⟨by omega,fun y hy f hf hn=>?_,?_⟩
  ·rcases List.mem_cons.1 hy with rfl|hy
   ·have:=g2 f hf hn;omega
   ·exact h2 y hy f hf hn
  ·rcases h3 with h3|⟨y,hy,f,hf,e⟩
   ·rcases g3 with g3|⟨f,hf,e,hn⟩
    ·exact .inl (by omega)
    ·exact .inr ⟨x,mS_ ..,f,hf,by omega,hn⟩
   ·exact .inr ⟨y,mC_ _ hy,f,hf,e⟩
theorem kids_true (f:Int→Bool×Int):∀ (m:Nat)(x c:Int),(kids f m x c).1=true↔∀ y:Int,x≤y→y<x+m→(f y).1=true
 | 0,x,c=>⟨fun _ y h1 h2=>by omega,fun _=>rfl⟩
 | m+1,x,c=>by
  rw[kids]
  by_cases h:(f x).1=true
  ·rw[if_pos h,kids_true f m]
   constructor
   ·intro hh y h1 h2
    rcases Int.lt_or_eq_of_le h1 with h3|rfl
    ·exact hh y (by omega) (by omega)
    ·exact h
   ·intro hh y h1 h2;exact hh y (by omega) (by omega)
  ·rw[if_neg h]
   exact⟨fun hh=>(by cases hh),fun hh=>absurd (hh x (Int.le_refl _) (by omega)) h⟩
theorem findF_none {p:List Fact}{v:Int}(hn:Nonneg p):findF p v<0↔∀ z∈p,z.1≠v:=by
 induction p with
 | nil=>exact⟨fun _=>(nofun),fun _=>(by rw[findF];omega)⟩
 | cons f r ih =>
  have hr:Nonneg r:=fun x hx=>hn x (mC_ _ hx)
  have hf:=hn f (mS_ ..)
  rw[findF]
  by_cases e:f.1=v
  ·rw[if_pos e];exact⟨fun h=>by omega,fun h=>absurd e (h f (mS_ ..))⟩
  ·rw[if_neg e,ih hr]
   exact⟨fun h z hz=>by rcases List.mem_cons.1 hz with rfl|hz;exact e;exact h z hz,fun h z hz=>h z (mC_ _ hz)⟩
theorem findF_some {p:List Fact}{v:Int}(h:0≤findF p v):(v,findF p v)∈p:=by
 induction p with
 | nil=>rw[findF]at h;omega
 | cons f r ih =>
  rw[findF]at h ⊢
  by_cases e:f.1=v
  ·rw[if_pos e];rw[← e];exact mS_ ..
  ·rw[if_neg e]at h ⊢;exact mC_ _ (ih h)
theorem prop_vf {vars:List Int}{p:List Fact}(h:propF vars (-1) p=true):Nonneg p∧Asc p∧∀ x∈p,x.1<vars.length∧x.2<vars.getD x.1.toNat 0:=by
 obtain⟨hv,hr⟩:=(propF_iff vars p (-1)).1 h
 obtain⟨hn,ha⟩:=(vF_iff' p).1 hv
 exact⟨hn,ha,hr⟩
theorem pwith_prop {vars:List Int}{p:List Fact}(h:propF vars (-1) p=true){v x:Int}(v0:0≤v)(v1:v<vars.length)(hf:findF p v<0)(x0:0≤x)(x1:x<vars.getD v.toNat 0):propF vars (-1) (pwithF p (v,x))=true:=by
 obtain⟨hn,ha,hr⟩:=prop_vf h
 refine(propF_iff _ _ _).2 ⟨(vF_iff' _).2 ⟨fun z hz=>?_,pwithF_asc p (v,x) ha ((findF_none hn).1 hf)⟩,fun z hz=>?_⟩
 ·rcases(pwithF_mem p (v,x) z).1 hz with hz|rfl
  ·exact hn z hz
  ·exact⟨v0,x0⟩
 ·rcases(pwithF_mem p (v,x) z).1 hz with hz|rfl
  ·exact hr z hz
  ·exact⟨v1,x1⟩
theorem holds_pwith {s:List Int}{p:List Fact}{v x:Int}:holdsF s (pwithF p (v,x))=true↔holdsF s p=true∧hold1 s (v,x)=true:=by
 rw[holdsF_iff,holdsF_iff]
 constructor
 ·intro h;exact⟨fun z hz=>h z ((pwithF_mem _ _ _).2 (.inl hz)),h _ ((pwithF_mem _ _ _).2 (.inr rfl))⟩
 ·rintro⟨h1,h2⟩ z hz
  rcases(pwithF_mem _ _ _).1 hz with hz|rfl
  ·exact h1 z hz
  ·exact h2
theorem clash_not {s:List Int}{p x:List Fact}(hp:holdsF s p=true)(h:clashP p x=true):¬ holdsF s x=true:=by
 intro hx
 unfold clashP at h
 obtain⟨f,hf,e⟩:=List.any_eq_true.1 h
 simp only[bA_,decide_eq_true_iff]at e
 have h1:=hold1_iff.1 (holdsF_iff.1 hp _ (findF_some e.1))
 have h2:=hold1_iff.1 (holdsF_iff.1 hx f hf)
 exact e.2 (h1.2.2.symm.trans h2.2.2)
theorem rest_some {s:List Int}{p:List Fact}(hp:holdsF s p=true)(l:List (List Fact)):some1 s (restP p l)↔some1 s l:=by
 unfold some1 restP
 constructor
 ·rintro⟨z,hz,h⟩;exact⟨z,(List.mem_filter.1 hz).1,h⟩
 ·rintro⟨z,hz,h⟩
  refine⟨z,List.mem_filter.2 ⟨hz,?_⟩,h⟩
  cases hc:clashP p z with
  | false=>rfl
  | true=>exact absurd h (clash_not hp hc)
structure DecP (vars:List Int)(d:Nat)(p:List Fact)(l:List (List Fact)):Prop where
 dom:∀ n∈vars,1≤n
 prop:propF vars (-1) p=true
 all:PropL vars l
 deep:vars.length<d+p.length
theorem DecP.low {vars:List Int}{d:Nat}{p:List Fact}{l:List (List Fact)}(h:DecP vars d p l)(hl:lowL p (restP p l) vars.length≠vars.length):0≤lowL p (restP p l) vars.length∧lowL p (restP p l) vars.length<vars.length∧findF p (lowL p (restP p l) vars.length)<0:=by
 obtain⟨h1,-,h3⟩:=lowL_spec p (restP p l) vars.length
 rcases h3 with h3|⟨x,hx,f,hf,e,hn⟩
 ·exact absurd h3 hl
 ·obtain⟨hxn,-,-⟩:=prop_vf (h.all x (List.mem_filter.1 hx).1)
  have:=(hxn f hf).1
  exact⟨by omega,by omega,by rw[← e];exact hn⟩
theorem DecP.kid {vars:List Int}{d:Nat}{p:List Fact}{l:List (List Fact)}(h:DecP vars (d+1) p l)(hl:lowL p (restP p l) vars.length≠vars.length){x:Int}(x0:0≤x)(x1:x<vars.getD (lowL p (restP p l) vars.length).toNat 0):DecP vars d (pwithF p (lowL p (restP p l) vars.length,x)) (restP p l):=by
 obtain⟨h1,h2,h3⟩:=h.low hl
 exact⟨h.dom,pwith_prop h.prop h1 h2 h3 x0 x1,fun z hz=>h.all z (List.mem_filter.1 hz).1,by rw[pwithF_len];have:=h.deep;omega⟩
theorem DecP.zero {vars:List Int}{p:List Fact}{l:List (List Fact)}(h:DecP vars 0 p l):False:=by
 have h1:=propF_len' h.prop
 have h2:=h.deep
 omega
theorem some_state {vars:List Int}(hd:∀ n∈vars,1≤n){p:List Fact}(h:propF vars (-1) p=true):∃ s,stateF vars s=true∧holdsF s p=true:=by
 obtain⟨hn,-,hr⟩:=prop_vf h
 exact⟨fillF p 0 vars,fill_state hd (fun f hf=>⟨(hn f hf).2,(hn f hf).1,hr f hf⟩) vars 0 rfl,fill_holds h⟩
theorem decA_true {vars:List Int}:∀ (d:Nat)(p:List Fact)(l:List (List Fact)),DecP vars d p l→((decA vars d p l).1=true↔∀ s,stateF vars s=true→holdsF s p=true→some1 s l)
 | 0,p,l,h=>h.zero.elim
 | d+1,p,l,h=>by
  rw[decA]
  by_cases hc:l.any (fun x=>subF x p)=true
  ·rw[if_pos hc]
   refine⟨fun _ s _ hp=>?_,fun _=>rfl⟩
   obtain⟨x,hx,hs⟩:=List.any_eq_true.1 hc
   exact⟨x,hx,holdsF_iff.2 fun f hf=>holdsF_iff.1 hp f (subF_iff.1 hs f hf)⟩
  ·rw[if_neg hc]
   by_cases hl:lowL p (restP p l) vars.length=vars.length
   ·rw[if_pos hl]
    refine⟨fun hh=>(by cases hh),fun hh=>?_⟩
    obtain⟨s,s1,s2⟩:=some_state h.dom h.prop
    obtain⟨x,hx,-⟩:=(rest_some s2 l).2 (hh s s1 s2)
    obtain⟨hxl,hxc⟩:=List.mem_filter.1 hx
    obtain⟨hxn,-,hxr⟩:=prop_vf (h.all x hxl)
    obtain⟨hpn,hpa,-⟩:=prop_vf h.prop
    refine absurd ((List.any_eq_true (p:=fun x=>subF x p)).2 ⟨x,hxl,subF_iff.2 fun f hf=>?_⟩) hc
    have h0:0≤findF p f.1:=by
     refine Int.not_lt.1 fun hn=>?_
     have h1:=(lowL_spec p (restP p l) vars.length).2.1 x hx f hf hn
     have h2:=(hxr f hf).1
     omega
    have h3:findF p f.1=f.2:=by
     refine Decidable.byContradiction fun hne=>?_
     have:clashP p x=true:=List.any_eq_true.2 ⟨f,hf,by simp only[bA_,decide_eq_true_iff];exact⟨h0,hne⟩⟩
     rw[this]at hxc
     cases hxc
    exact(findF_mem hpa (hxn f hf).2).1 h3
   ·rw[if_neg hl,kids_true]
    obtain⟨h1,h2,h3⟩:=h.low hl
    have hdom:=h.dom
    constructor
    ·intro hh s s1 s2
     have st:=stateF_st s1
     have hr:=st.rng (lowL p (restP p l) vars.length).toNat (by omega)
     have hx:=hh (s.getD (lowL p (restP p l) vars.length).toNat 0) hr.1 (by omega)
     have hk:=h.kid hl hr.1 hr.2
     have:=(decA_true d _ _ hk).1 hx s s1 (holds_pwith.2 ⟨s2,hold1_iff.2 ⟨h1,by rw[st.len];exact h2,rfl⟩⟩)
     exact(rest_some s2 l).1 this
    ·intro hh y y0 y1
     have y2:y<vars.getD (lowL p (restP p l) vars.length).toNat 0:=by omega
     refine(decA_true d _ _ (h.kid hl y0 y2)).2 fun s s1 s2=>?_
     have s3:=(holds_pwith.1 s2).1
     exact(rest_some s3 l).2 (hh s s1 s3)
end Go.Proofs.YtinknhophadbkaaGreatDoor.Am
namespace Go.Proofs.YtinknhophadbkaaGreatDoor.Am
set_option maxHeartbeats 16000000
set_option maxRecDepth 100000
open Go.RowKit
structure GCertificate where
 Bound:Int
 Nogoods:List Nogood
 deriving DecidableEq
def cGCertificate (x:GCertificate):List AV:=[.c (.int .i64 x.Bound),.sl 2 (x.Nogoods.map cN)]
theorem fr_cGCertificate (x:GCertificate):∀ y∈cGCertificate x,Fr y:=FrC_cons (.c _) (FrC_cons (.sl (frl_cN _)) (FrC_nil))
theorem frl_cGCertificate (l:List GCertificate):FrL (l.map cGCertificate):=FrL_map (fun x _=>fr_cGCertificate x)
instance {l:List GCertificate}:FrI (l.map cGCertificate):=⟨frl_cGCertificate l⟩
theorem zb_XDLow {P:Prop}(h:P:=by repeat (first|exact BWL.nil|exact bwll_nil|exact bw_c|exact BW.sl|exact BW.nil|exact bwll_same rfl FrI.h|refine BWL.cons ?_ ?_|refine bwll_cons ?_ ?_|(refine bw_own3 rfl rfl rfl FrI.h ?_ ?_ ?_)|exact BW.fr FrV.h|exact BW.fr (by assumption)|refine bw_agg ?_|refine bw_clo ?_|refine bw_ptr rfl rfl rfl ?_|(refine bw_own rfl rfl rfl ?_ FrI.h ?_ ?_)|assumption|omega|rfl|(rw[lM_,← lA_];assumption)|(refine bwll_same ?_ FrI.h;(simp[cGTask,cI,cF,cGOp,cGEffect,cGCertificate,cN,cGEntry,cL_cF] <;> fail))|(rw[List.map_set];refine bwll_set (by first|rfl|omega|simp) ?_ ?_)|refine bwll_set (by first|rfl|omega|simp) ?_ ?_|(rw[List.map_replicate];refine bwll_rep ?_)|refine bwll_rep ?_|(rw[List.map_append];refine bwll_append ?_ ?_)|refine bwll_append ?_ ?_|(simp[cGTask,cI,cF,cGOp,cGEffect,cGCertificate,cN,cGEntry,cL_cF,take_len_map] <;> fail)|(rw[List.drop_zero,tL_] <;> first|rfl|(simp[cGTask,cI,cF,cGOp,cGEffect,cGCertificate,cN,cGEntry,cL_cF] <;> fail))|(simp;omega)|(simp only[lM_,lA_,List.drop_zero,lC_,lN_,Nat.zero_add,Nat.add_zero]at *;omega))):P:=h
theorem zg_XDLow {P:Prop}(h:P:=by repeat (first|exact True.intro|exact gb_nil rfl rfl|exact gb_take rfl ⟨rfl,rfl,rfl⟩ List.map_take FrI.h|refine gb_some ⟨rfl,rfl,rfl⟩ ?_|refine And.intro ?_ ?_|refine gw_ren rfl rfl rfl rfl rfl ?_|exact gw_oren rfl rfl rfl rfl rfl|exact gw_opren rfl rfl rfl rfl rfl|exact gw_onil rfl rfl|exact gw_mren rfl rfl rfl rfl|refine gw_pren rfl rfl rfl rfl rfl|exact gw_thaw rfl rfl rfl|refine gw_tup ?_|refine gw_ifc ?_|exact GWL.nil|exact gwll_nil|exact gw_c|exact GW.sl|exact GW.nil|exact gwll_same rfl FrI.h|refine GWL.cons ?_ ?_|refine gwll_cons ?_ ?_|(refine gw_own3 rfl rfl rfl FrI.h ?_ ?_ ?_)|exact GW.fr FrV.h|exact GW.fr (by assumption)|refine gw_agg ?_|refine gw_clo ?_|refine gw_ptr rfl rfl rfl ?_|(refine gw_own rfl rfl rfl ?_ FrI.h ?_ ?_)|assumption|omega|rfl|(rw[lM_,← lA_];assumption)|(refine gwll_same ?_ FrI.h;(simp[cGTask,cI,cF,cGOp,cGEffect,cGCertificate,cN,cGEntry,cL_cF] <;> fail))|(rw[List.map_set];refine gwll_set (by first|rfl|omega|simp) ?_ ?_)|refine gwll_set (by first|rfl|omega|simp) ?_ ?_|(rw[List.map_replicate];refine gwll_rep ?_)|refine gwll_rep ?_|(rw[List.map_append];refine gwll_append ?_ ?_)|refine gwll_append ?_ ?_|(simp[cGTask,cI,cF,cGOp,cGEffect,cGCertificate,cN,cGEntry,cL_cF,take_len_map] <;> fail)|(rw[List.drop_zero,tL_] <;> first|rfl|(simp[cGTask,cI,cF,cGOp,cGEffect,cGCertificate,cN,cGEntry,cL_cF] <;> fail))|(simp;omega)|(simp only[lM_,lA_,List.drop_zero,lC_,lN_,Nat.zero_add,Nat.add_zero]at *;omega))):P:=h
theorem ci_XDLow {p K:Prop}(k:K)(h:p:=by first|rfl|exact⟨rfl,rfl⟩|exact BW.fr FrV.h|(refine BW.fr ?_;assumption)|(refine⟨rfl,?_⟩;(simp[cGTask,cI,cF,cGOp,cGEffect,cGCertificate,cN,cGEntry,cL_cF,take_len_map];done))|(refine RowK.same ?_ FrI.h;first|rfl|(simp[cGTask,cI,cF,cGOp,cGEffect,cGCertificate,cN,cGEntry,cL_cF,take_len_map];done))|(refine row_part1 ?_;(exact zb_XDLow);done)|((exact zb_XDLow);done)|(simp[cGTask,cI,cF,cGOp,cGEffect,cGCertificate,cN,cGEntry,cL_cF,take_len_map];done)):p∧K:=⟨h,k⟩
theorem ca_XDLow {P:Prop}(h:P:=by repeat (first|exact True.intro|refine ci_XDLow ?_)):P:=h
theorem pr_XDLow {p K:Prop}(k:K)(h:p:=by first|assumption|exact Int.natCast_nonneg _|exact Nat.le_refl _|exact Nat.zero_le _|omega|(simp;done)|(simp;omega)):p∧K:=⟨h,k⟩
theorem pl_XDLow {p K:Prop}(k:K)(h:p:=by first|rfl|exact lM_ _|(simp;done)|(simp;omega)):p∧K:=⟨h,k⟩
theorem pe_XDLow {p K:Prop}(k:K)(h:p:=by first|omega|(simp;omega)|(simp only[lM_,lC_,lN_,lA_];omega)|(simp only[lM_,List.drop_zero,lC_,lN_,Nat.zero_add,Nat.add_zero]at *;omega)):p∧K:=⟨h,k⟩
theorem dr_XDLow {b:Bool}{p K:Prop}(k:K)(h:b=true→p:=by intro h;first|(cases h;done)|exact⟨by kernel_rfl,by kernel_rfl⟩):(b=true→p)∧K:=⟨h,k⟩
theorem cl_XDLow {C:Cx}{n:Nat}{o:Oper}{τ:Nat→AV}{η:Nat→Ent}{f:FuncId}{os:Array Operand}{ats:Array TypeId}{r:AV}{args:List AV}{K:Foot→Prop}(ho:o.op=.call ⟨.value (.func f),os,ats⟩)(hc:ACall C f args r)(k:K ⟨r,[],[]⟩)
  (hd:InB n o.dst:=by exact bT1 rfl) (hargs:os.toList.map (evA τ)=args:=by first|rfl|(simp[cGTask,cI,cF,cGOp,cGEffect,cGCertificate,cN,cGEntry,cL_cF];done)|(repeat (first|exact rfl|refine cons_eq ?_ ?_|exact sl_dt rfl))) (hfr:frs args:=by repeat (first|exact trivial|exact fr1_eA _|exact fr0_eA _|exact fr1_fr (by assumption)|exact FrV.h|exact fr1_fr FrV.h|refine And.intro ?_ ?_)) (hr:fr1 r:=by repeat (first|exact trivial|exact fr1_eA _|exact fr0_eA _|exact fr1_fr (by assumption)|exact FrV.h|exact fr1_fr FrV.h|refine And.intro ?_ ?_)):∃ f:Foot,LF C n o τ η f∧K f:=⟨_,lf_call ho hd hargs hc hfr hr,k⟩
theorem clc_XDLow {C:Cx}{n:Nat}{o:Oper}{τ:Nat→AV}{η:Nat→Ent}{c:Operand}{os:Array Operand}{ats:Array TypeId}{r F:AV}{xs:List AV}{K:Foot→Prop}(ho:o.op=.call ⟨.value c,os,ats⟩)(hc:CCl C F xs r)(hfF:Fr F)(k:K ⟨r,[],[]⟩)
  (hd:InB n o.dst:=by exact bT1 rfl) (hF:evA τ c=F:=by rfl) (hargs:os.toList.map (evA τ)=xs:=by first|rfl|(simp[cGTask,cI,cF,cGOp,cGEffect,cGCertificate,cN,cGEntry,cL_cF];done)|(repeat (first|exact rfl|refine cons_eq ?_ ?_|exact sl_dt rfl))) (hfr:frs xs:=by repeat (first|exact trivial|exact fr1_eA _|exact fr0_eA _|exact fr1_fr (by assumption)|exact FrV.h|exact fr1_fr FrV.h|refine And.intro ?_ ?_)) (hr:fr1 r:=by repeat (first|exact trivial|exact fr1_eA _|exact fr0_eA _|exact fr1_fr (by assumption)|exact FrV.h|exact fr1_fr FrV.h|refine And.intro ?_ ?_)):∃ f:Foot,LF C n o τ η f∧K f:=⟨_,lf_clo ho hd hF hargs hc hfF hfr hr,k⟩
theorem clb_XDLow {C:Cx}{n:Nat}{o:Oper}{τ:Nat→AV}{η:Nat→Ent}{f:FuncId}{os:Array Operand}{ats:Array TypeId}{r:AV}{xs ys:List AV}{K:Foot→Prop}(bs:List Nat)(ho:o.op=.call ⟨.value (.func f),os,ats⟩)(hargs:os.toList.map (evA τ)=xs)(hc:ACall C f ys r)(k:K ⟨r,[],bs⟩)
  (hd:InB n o.dst:=by exact bT1 rfl) (hb:BWL η (dropB η bs) xs ys:=by exact zb_XDLow) (hr:scal r:=by repeat (first|exact trivial|exact scal0_eA _|exact scal_eA _|refine And.intro ?_ ?_)):∃ f:Foot,LF C n o τ η f∧K f:=⟨_,lf_callB bs ho hd hargs hb hc hr,k⟩
theorem clg_XDLow {C:Cx}{n:Nat}{o:Oper}{τ:Nat→AV}{η:Nat→Ent}{f:FuncId}{os:Array Operand}{ats:Array TypeId}{r:AV}{xs ys:List AV}{bs bs':List (Nat×Blk)}{ks:List Nat}{K:Foot→Prop}(ρ:List (Nat×Nat))(fz:List Nat)(go nb:List (Nat×Ent))(r':AV)(ho:o.op=.call ⟨.value (.func f),os,ats⟩)(hargs:os.toList.map (evA τ)=xs)
  (hc:ACallG C f ys bs ks r bs') (k:K ⟨r',go++nb,[]⟩) (hd:InB n o.dst:=by exact bT1 rfl) (hok:okC ρ fz bs ks bs' (idsE go)=true:=by rfl) (hgo:allUs η go:=by repeat (first|exact trivial|refine And.intro rfl ?_)) (hgl:ltUs n go:=by repeat (first|exact trivial|refine And.intro (bT1 rfl) ?_))
  (hw:GWL η (fE bs) (lk ρ) (fun i=>inB fz i=true) (fun i=>inB (keys bs) i=true) xs ys:=by exact zg_XDLow) (hb:GBL η (fE bs) (lk ρ) (fun i=>inB fz i=true) (fun i=>inB (keys bs) i=true) bs:=by exact zg_XDLow)
  (hr:GW (fE bs') (updAll η (go++nb)) (lk (backN ρ bs')) (fun _=>False) (fun i=>inB (idsE nb) i=true) r r':=by exact zg_XDLow)
  (hnb:nbOk n η (updAll η (go++nb)) ρ ks (fE bs') (lk (backN ρ bs')) (fun i=>inB (idsE nb) i=true) bs' nb:=by repeat (first|exact True.intro|rfl|exact bT1 rfl|exact gb_nil rfl rfl|exact gb_take rfl ⟨rfl,rfl,rfl⟩ List.map_take FrI.h|refine gb_some ⟨rfl,rfl,rfl⟩ ?_|refine And.intro ?_ ?_|refine gw_ren rfl rfl rfl rfl rfl ?_|exact gw_oren rfl rfl rfl rfl rfl|exact gw_opren rfl rfl rfl rfl rfl|exact gw_onil rfl rfl|exact gw_mren rfl rfl rfl rfl|refine gw_pren rfl rfl rfl rfl rfl|exact gw_thaw rfl rfl rfl|refine gw_tup ?_|refine gw_ifc ?_|exact GWL.nil|exact gwll_nil|exact gw_c|exact GW.sl|exact GW.nil|exact gwll_same rfl FrI.h|refine GWL.cons ?_ ?_|refine gwll_cons ?_ ?_|(refine gw_own3 rfl rfl rfl FrI.h ?_ ?_ ?_)|exact GW.fr FrV.h|exact GW.fr (by assumption)|refine gw_agg ?_|refine gw_clo ?_|refine gw_ptr rfl rfl rfl ?_|(refine gw_own rfl rfl rfl ?_ FrI.h ?_ ?_)|assumption|omega|rfl|(rw[lM_,← lA_];assumption)|(refine gwll_same ?_ FrI.h;(simp[cGTask,cI,cF,cGOp,cGEffect,cGCertificate,cN,cGEntry,cL_cF] <;> fail))|(rw[List.map_set];refine gwll_set (by first|rfl|omega|simp) ?_ ?_)|refine gwll_set (by first|rfl|omega|simp) ?_ ?_|(rw[List.map_replicate];refine gwll_rep ?_)|refine gwll_rep ?_|(rw[List.map_append];refine gwll_append ?_ ?_)|refine gwll_append ?_ ?_|(simp[cGTask,cI,cF,cGOp,cGEffect,cGCertificate,cN,cGEntry,cL_cF,take_len_map] <;> fail)|(rw[List.drop_zero,tL_] <;> first|rfl|(simp[cGTask,cI,cF,cGOp,cGEffect,cGCertificate,cN,cGEntry,cL_cF] <;> fail))|(simp;omega)|(simp only[lM_,lA_,List.drop_zero,lC_,lN_,Nat.zero_add,Nat.add_zero]at *;omega))):∃ f:Foot,LF C n o τ η f∧K f:=⟨_,lf_callG ρ fz go nb ho hd hargs hc hok hgo hgl hw hb hr hnb,k⟩
def M_certify_bounded (a0:Int):Option (Bool):=sel (decide (a0≥(-1))) (some (decide (a0≤1099511627776))) (some false)
theorem A_certify_bounded (a0:Int){r1:Bool}(h:M_certify_bounded a0=some r1):ACall cx 25 [.c (.int .i64 a0)] (.c (.bool r1)):=by
 refine aOf Tryz.func25 rfl (by decide) rfl (bT1 rfl) ?_;intro _;unfold M_certify_bounded at h;refine aSR ?_;intro _;refine dr_XDLow ?_;refine aSR ?_;intro _;refine spl h (fun c1 h=>?_) (fun c1 h=>?_)
 ·intro _;refine dr_XDLow ?_;refine aRt ?_;intro _;obtain rfl:=inj1 h;exact ca_XDLow
 ·intro _;refine dr_XDLow ?_;refine aRt ?_;intro _;obtain rfl:=inj1 h;exact ca_XDLow
def M_s_IndexFunc_Nogood_L1 (a0:List Nogood)(a1:Nogood→Option Bool):Nat→Int→Option (Int)|0,_=>none|k7+1,v6=>sel (decide (v6<((a0.map cN).length:Int))) (ix a0 v6 (fun y8=>ob1 (a1 y8) (fun z9=>sel z9 (some v6) (M_s_IndexFunc_Nogood_L1 a0 a1 k7 (IntKind.i64.wrap (v6+1)))))) (some (-1))
def M_s_IndexFunc_Nogood (a0:List Nogood)(a1:Nogood→Option Bool):Option (Int):=M_s_IndexFunc_Nogood_L1 a0 a1 ((((a0.map cN).length:Int)).toNat+1) 0
theorem A_s_IndexFunc_Nogood (a0:List Nogood)(a1:Nogood→Option Bool)(Fa1:AV)(hFa1:Fr Fa1)(ea1:∃ f fs cap,Fa1=.clo (.func f) fs cap)(ha1:∀ (x0:Nogood)(y0:Bool),a1 x0=some y0→CCl cx Fa1 [.agg [.sl 2 (x0.1.map cF),.c (.int .i64 x0.2)]] (.c (.bool y0))){r1:Int}(h:M_s_IndexFunc_Nogood a0 a1=some r1):ACall cx 78 [.sl 2 (a0.map cN),Fa1] (.c (.int .i64 r1)):=by
 obtain⟨fa1,sa1,qa1,rfl⟩:=ea1;refine aOf Tryz.func78 rfl (by decide) rfl (bT1 rfl) ?_;intro _;unfold M_s_IndexFunc_Nogood at h;refine aSR ?_;intro _;refine dr_XDLow ?_;refine aSq (aSR ?_);intro _;refine dr_XDLow ?_;refine aBk ?_;refine awp_loop (α:=Nat×Int) (fun x=>mkS 19 [(0,.sl 2 (a0.map cN)),(1,.clo (.func fa1) sa1 qa1),(7,.c (.int .i64 ((a0.map cN).length:Int))),(8,.c (.int .i64 x.2))] []) (fun x=>M_s_IndexFunc_Nogood_L1 a0 a1 x.1 x.2=some r1) (fun x=>x.1) ((((a0.map cN).length:Int)).toNat+1,0) h ?_ ?_
 ·exact ca_XDLow
 ·intro x1 h;intro _;obtain⟨k7,m2,h⟩:=succ_of (f:=fun n=>M_s_IndexFunc_Nogood_L1 a0 a1 n x1.2) rfl h;replace h:M_s_IndexFunc_Nogood_L1 a0 a1 (k7+1) x1.2=some r1:=h;rw[M_s_IndexFunc_Nogood_L1]at h;refine aSR ?_;intro _;refine dr_XDLow ?_;refine aSq (aCd ?_);intro _;refine spl h (fun c3 h=>?_) (fun c3 h=>?_)
  ·refine aSk (aSq (aBk (aSR ?_)));intro _;refine dr_XDLow ?_;refine aSR ?_;intro _;obtain⟨y8,w4,q5,h⟩:=ix_ok h;refine Exists.intro (cN y8) (And.intro (map_at' w4) ?_);intro _;obtain⟨z9,u6,h⟩:=ob1_ok h;refine clc_XDLow rfl (ha1 _ _ u6) hFa1 ?_;intro _;refine pr_XDLow ?_;refine dr_XDLow ?_;refine aCd ?_;intro _;refine spl h (fun c7 h=>?_) (fun c7 h=>?_)
   ·refine aSR ?_;intro _;refine dr_XDLow ?_;refine aRt ?_;intro _;obtain rfl:=inj1 h;exact ca_XDLow
   ·refine aSk (aRg ?_);intro _;refine dr_XDLow ?_;refine⟨(k7,(IntKind.i64.wrap (x1.2+1))),h,ltS m2,?_⟩;exact ca_XDLow
  ·refine aEx (aSR ?_);intro _;refine dr_XDLow ?_;refine aRt ?_;intro _;obtain rfl:=inj1 h;exact ca_XDLow
def M_s_ContainsFunc_Nogood (a0:List Nogood)(a1:Nogood→Option Bool):Option (Bool):=ob1 (M_s_IndexFunc_Nogood a0 a1) (fun z1=>some (decide (z1≥0)))
theorem A_s_ContainsFunc_Nogood (a0:List Nogood)(a1:Nogood→Option Bool)(Fa1:AV)(hFa1:Fr Fa1)(ea1:∃ f fs cap,Fa1=.clo (.func f) fs cap)(ha1:∀ (x0:Nogood)(y0:Bool),a1 x0=some y0→CCl cx Fa1 [.agg [.sl 2 (x0.1.map cF),.c (.int .i64 x0.2)]] (.c (.bool y0))){r1:Bool}(h:M_s_ContainsFunc_Nogood a0 a1=some r1):ACall cx 58 [.sl 2 (a0.map cN),Fa1] (.c (.bool r1)):=by
 obtain⟨fa1,sa1,qa1,rfl⟩:=ea1;refine aOf Tryz.func58 rfl (by decide) rfl (bT1 rfl) ?_;intro _;unfold M_s_ContainsFunc_Nogood at h;refine aSR ?_;intro _;refine dr_XDLow ?_;refine aSR ?_;intro _;obtain⟨z1,u1,h⟩:=ob1_ok h;refine cl_XDLow rfl (A_s_IndexFunc_Nogood a0 a1 (.clo (.func fa1) sa1 qa1) hFa1 ⟨_,_,_,rfl⟩ ha1 u1) ?_;intro _;refine dr_XDLow ?_;refine aRt ?_;intro _;obtain rfl:=inj1 h;exact ca_XDLow
def M_p_Contains (a0:List Fact)(a1:List Fact):Option (Bool):=ob1 (M_p_valid a0) (fun z1=>sel z1 (ob1 (M_p_valid a1) (fun z2=>sel z2 (ob1 (M_p_contains a0 a1) (fun z3=>some z3)) (some false))) (some false))
theorem A_p_Contains (a0:List Fact)(a1:List Fact){r1:Bool}(h:M_p_Contains a0 a1=some r1):ACall cx 60 [.sl 2 (a0.map cF),.sl 2 (a1.map cF)] (.c (.bool r1)):=by
 refine aOf Tryz.func60 rfl (by decide) rfl (bT1 rfl) ?_;intro _;unfold M_p_Contains at h;refine aSR ?_;intro _;refine dr_XDLow ?_;refine aSR ?_;intro _;obtain⟨z1,u1,h⟩:=ob1_ok h;refine cl_XDLow rfl (A_p_valid a0 u1) ?_;intro _;refine spl h (fun c2 h=>?_) (fun c2 h=>?_)
 ·intro _;obtain⟨z2,u3,h⟩:=ob1_ok h;refine cl_XDLow rfl (A_p_valid a1 u3) ?_;intro _;refine spl h (fun c4 h=>?_) (fun c4 h=>?_)
  ·intro _;obtain⟨z3,u5,h⟩:=ob1_ok h;refine cl_XDLow rfl (A_p_contains a0 a1 u5) ?_;intro _;refine dr_XDLow ?_;refine aRt ?_;intro _;obtain rfl:=inj1 h;exact ca_XDLow
  ·intro _;refine dr_XDLow ?_;refine aRt ?_;intro _;obtain rfl:=inj1 h;exact ca_XDLow
 ·intro _;refine dr_XDLow ?_;refine aRt ?_;intro _;obtain rfl:=inj1 h;exact ca_XDLow
def M_certify_contains_1 (b0:List Fact)(a0:Nogood):Option (Bool):=ob1 (M_p_Contains b0 a0.1) (fun z1=>some z1)
theorem A_certify_contains_1 (b0:List Fact)(a0:Nogood){r1:Bool}(h:M_certify_contains_1 b0 a0=some r1):ACall cx 59 [.agg [.sl 2 (a0.1.map cF),.c (.int .i64 a0.2)],.pim [.sl 2 (b0.map cF)] 0] (.c (.bool r1)):=by
 refine aOf Tryz.func59 rfl (by decide) rfl (bT1 rfl) ?_;intro _;unfold M_certify_contains_1 at h;refine aSR ?_;intro _;refine dr_XDLow ?_;refine aSR ?_;intro _;obtain⟨z1,u1,h⟩:=ob1_ok h;refine cl_XDLow rfl (A_p_Contains b0 a0.1 u1) ?_;intro _;refine dr_XDLow ?_;refine aRt ?_;intro _;obtain rfl:=inj1 h;exact ca_XDLow
def M_certify_contains (a0:List Fact)(a1:List Nogood):Option (Bool):=ob1 (M_s_ContainsFunc_Nogood a1 (M_certify_contains_1 a0)) (fun z1=>some z1)
theorem A_certify_contains (a0:List Fact)(a1:List Nogood){r1:Bool}(h:M_certify_contains a0 a1=some r1):ACall cx 29 [.sl 2 (a0.map cF),.sl 2 (a1.map cN)] (.c (.bool r1)):=by
 refine aOf Tryz.func29 rfl (by decide) rfl (bT1 rfl) ?_;intro _;unfold M_certify_contains at h;refine aSR ?_;intro _;refine dr_XDLow ?_;refine aSR ?_;intro _;refine⟨_,lf_func rfl (bT1 rfl) rfl rfl,?_⟩;intro _;obtain⟨z1,u1,h⟩:=ob1_ok h;refine clb_XDLow [2] rfl rfl (A_s_ContainsFunc_Nogood a1 (M_certify_contains_1 a0) (.clo (.func 59) [] [.pim [.sl 2 (a0.map cF)] 0]) (Fr.clo FrC_nil FrE.h) ⟨_,_,_,rfl⟩ (fun x0 y0 hx=>⟨59,[],_,rfl,A_certify_contains_1 a0 x0 hx⟩) u1) ?_;intro _;refine dr_XDLow ?_;refine aRt ?_;intro _;obtain rfl:=inj1 h;exact ca_XDLow
def M_certify_Lower_L1 (g:Nat)(v843:Int)(z845:List (List Fact)):Nat→Int→Int→(List GEntry)→Option ((Int×(List GEntry))⊕(GCertificate×Er))|0,_,_,_=>none|k858+1,v855,v856,v857=>sel (decide (v856<((z845.map cL_cF).length:Int))) (ix z845 v856 (fun y859=>ob1 (M_container_heap_Push g v857 ({ facts:=y859,dist:=v843,order:=v855:GEntry })) (fun c860=>M_certify_Lower_L1 g v843 z845 k858 (IntKind.i64.wrap (v855+1)) (IntKind.i64.wrap (v856+1)) c860))) (some (.inl (v855,v857)))
def M_certify_Lower_L2 (a0:GTask)(a1:Int)(g:Nat)(z580:GEntry):Nat→Int→Int→(List GEntry)→Option ((Int×(List GEntry))⊕(GCertificate×Er))|0,_,_,_=>none|k817+1,v814,v815,v816=>sel (decide (v815<((a0.Ops.map cGOp).length:Int))) (ob1 (ix a0.Ops v815 (fun y842=>ob1 (sel (decide (a1<0)) (some (.inl 0)) (sel (decide ((IntKind.i64.wrap (z580.dist+y842.Cost))≥a1)) (some (.inr ())) (some (.inl (IntKind.i64.wrap (z580.dist+y842.Cost))))):Option (Int⊕Unit)) (osum (fun v843=>ob2 (M_g_Regress g a0 v815 z580.facts) (fun z845 z846=>erM z846 (M_certify_Lower_L1 g v843 z845 ((((z845.map cL_cF).length:Int)).toNat+1) v814 0 v816) (fun e847=>some (.inr ({ Bound:=0,Nogoods:=[]:GCertificate },(Er.no e847)))))) (fun _=>some (.inl (v814,v816))))):Option ((Int×(List GEntry))⊕(GCertificate×Er))) (osum (fun(v837,v838)=>M_certify_Lower_L2 a0 a1 g z580 k817 v837 (IntKind.i64.wrap (v815+1)) v838) (fun(r839,r840)=>some (.inr (r839,r840))))) (some (.inl (v814,v816)))
def M_certify_Lower_L3 (a0:GTask)(a1:Int)(a2:Int)(g:Nat):Nat→Int→(List GEntry)→(List Nogood)→Option (GCertificate×Er)|0,_,_,_=>none|k577+1,v574,v575,v576=>ob2 (M_stratagem_certify_entries_Len v575) (fun z578 c579=>grd (c579.length=v575.length) (sel (decide (z578>0)) (ob2 (M_container_heap_Pop g c579) (fun z580 c581=>grd (v576.length≤140737488355328) (ob1 (M_certify_contains z580.facts v576) (fun z582=>sel z582 (M_certify_Lower_L3 a0 a1 a2 g k577 v574 c581 v576) (ob1 (M_task_Holds z580.facts a0.Init) (fun z583=>sel z583 (some ({ Bound:=0,Nogoods:=[]:GCertificate },(Er.no 13))) (sel (((v576.length:Nat):Int) == (max 0 (min a2 4096))) (some ({ Bound:=0,Nogoods:=[]:GCertificate },(Er.no 10))) (grd ((v576.length+1)*32≤140737488355328) (ob1 (M_certify_Lower_L2 a0 a1 g z580 ((((a0.Ops.map cGOp).length:Int)).toNat+1) v574 0 c581:Option ((Int×(List GEntry))⊕(GCertificate×Er))) (osum (fun(v720,v721)=>M_certify_Lower_L3 a0 a1 a2 g k577 v720 v721 (v576++[(z580.facts,z580.dist)])) (fun(r722,r723)=>some (r722,r723)))))))))))) (grd (v576.length≤140737488355328) (some ({ Bound:=a1,Nogoods:=v576:GCertificate },Er.nil)))))
def M_certify_Lower (g:Nat)(a0:GTask)(a1:Int)(a2:Int):Option (GCertificate×Er):=ob1 (M_task_Check a0) (fun z1=>erM z1 (ob1 (M_certify_bounded a1) (fun z3=>sel (!z3) (some ({ Bound:=0,Nogoods:=[]:GCertificate },(Er.no 1))) (sel (a1 == 0) (some ({ Bound:=a1,Nogoods:=[]:GCertificate },Er.nil)) (ob1 (M_cloneF a0.Goal) (fun z4=>grd (z4.length≤140737488355328) (M_certify_Lower_L3 a0 a1 a2 g g 1 [{ facts:=z4,dist:=0,order:=0:GEntry }] [])))))) (fun e2=>some ({ Bound:=0,Nogoods:=[]:GCertificate },(Er.no e2))))
theorem A_certify_Lower (g:Nat)(a0:GTask)(a1:Int)(a2:Int){r1:GCertificate}{r2:Er}(h:M_certify_Lower g a0 a1 a2=some (r1,r2)):ACall cx 11 [.agg [.sl 1 (a0.Vars.map cI),.sl 1 (a0.Init.map cI),.sl 2 (a0.Goal.map cF),.sl 4 (a0.Ops.map cGOp)],.c (.int .i64 a1),.c (.int .i64 a2)] (.tup [.agg [.c (.int .i64 r1.Bound),.sl 2 (r1.Nogoods.map cN)],eA r2]):=by
 refine aOf Tryz.func11 rfl (by decide) rfl (bT1 rfl) ?_;intro _;unfold M_certify_Lower at h;refine aSR ?_;intro _;refine dr_XDLow ?_;refine aSq (aSR ?_);intro _;obtain⟨z1,u1,h⟩:=ob1_ok h;refine cl_XDLow rfl (A_task_Check a0 u1) ?_;intro _;refine dr_XDLow ?_;refine aSq ?_;rcases z1 with _|e2
 ·replace h:=erM_nil h;refine aRg ?_;intro _;refine dr_XDLow ?_;refine aCd ?_;intro _;refine litF (aSk (aSq (aSR ?_)));intro _;obtain⟨z3,u2,h⟩:=ob1_ok h;refine cl_XDLow rfl (A_certify_bounded a1 u2) ?_;intro _;refine dr_XDLow ?_;refine aCd ?_;intro _;refine spl h (fun c3 h=>?_) (fun c3 h=>?_)
  ·refine aSR ?_;intro _;refine dr_XDLow ?_;refine aRt ?_;intro _;obtain⟨rfl,rfl⟩:=inj2 h;exact ca_XDLow
  ·refine aSk (aSR ?_);intro _;refine dr_XDLow ?_;refine aSq (aSR ?_);intro _;refine dr_XDLow ?_;refine aCd ?_;intro _;refine spl h (fun c4 h=>?_) (fun c4 h=>?_)
   ·refine aSR ?_;intro _;refine dr_XDLow ?_;refine aRt ?_;intro _;obtain⟨rfl,rfl⟩:=inj2 h;exact ca_XDLow
   ·refine aSk (aSR ?_);intro _;refine⟨_,lf_min rfl (bT1 rfl) rfl rfl,?_⟩;intro _;refine⟨_,lf_max rfl (bT1 rfl) rfl rfl,?_⟩;intro _;refine dr_XDLow ?_;refine aSR ?_;intro _;obtain⟨z4,u5,h⟩:=ob1_ok h;refine clg_XDLow [(0,42)] [] [] [(42,⟨2,some ⟨47,2,false,z4.map cF⟩⟩)] (.own 42 2 0 z4.length) rfl rfl (A_cloneF a0.Goal u5) ?_;intro _;refine dr_XDLow ?_;refine aSR ?_;intro _;refine dr_XDLow ?_;refine aSq (aBk ?_);obtain⟨q6,h⟩:=grd_ok h;refine awp_loop (α:=Nat×Int×(List GEntry)×(List Nogood)) (fun x=>mkS 136 [(1,.c (.int .i64 a1)),(2,.c (.int .i64 (max 0 (min a2 4096)))),(3,.ptr 3 0 0 0),(6,.ptr 6 0 0 0),(9,.ptr 9 0 0 0),(10,.ptr 45 0 0 0),(11,.c (.int .i64 x.2.1))] [(3,⟨26,4,true,[[.sl 1 (a0.Vars.map cI),.sl 1 (a0.Init.map cI),.sl 2 (a0.Goal.map cF),.sl 4 (a0.Ops.map cGOp)]]⟩),(6,⟨35,2,true,[[.c (.int .i64 0),.c (.slice none 0 0)]]⟩),(9,⟨35,2,true,[[.c (.int .i64 a1),.own 85 0 0 x.2.2.2.length]]⟩),(44,⟨75,3,false,x.2.2.1.map cGEntry⟩),(45,⟨77,1,true,[[.own 44 0 0 x.2.2.1.length]]⟩),(85,⟨61,2,false,x.2.2.2.map cN⟩)]) (fun x=>M_certify_Lower_L3 a0 a1 a2 g x.1 x.2.1 x.2.2.1 x.2.2.2=some (r1,r2)) (fun x=>x.1) (g,1,[{ facts:=z4,dist:=0,order:=0:GEntry }],[]) h ?_ ?_
    ·exact ca_XDLow
    ·intro x7 h;intro _;obtain⟨k577,m8,h⟩:=succ_of (f:=fun n=>M_certify_Lower_L3 a0 a1 a2 g n x7.2.1 x7.2.2.1 x7.2.2.2) rfl h;replace h:M_certify_Lower_L3 a0 a1 a2 g (k577+1) x7.2.1 x7.2.2.1 x7.2.2.2=some (r1,r2):=h;rw[M_certify_Lower_L3]at h;refine aSq (aSR ?_);intro _;obtain⟨z578,c579,u9,h⟩:=ob2_ok h;refine clg_XDLow [(5,44)] [] [] [(44,⟨0,some ⟨75,3,false,c579.map cGEntry⟩⟩)] (.c (.int .i64 z578)) rfl rfl (A_stratagem_certify_entries_Len x7.2.2.1 u9) ?_;obtain⟨q10,h⟩:=grd_ok h;intro _;refine dr_XDLow ?_;refine aCd ?_;intro _;refine spl h (fun c11 h=>?_) (fun c11 h=>?_)
     ·refine aSk (aBk (aSR ?_));intro _;obtain⟨z580,c581,u12,h⟩:=ob2_ok h;refine clg_XDLow [(16,45),(0,44)] [] [(44,⟨1,none⟩)] [(45,⟨0,some ⟨77,1,true,[[.own 44 2 0 c581.length]]⟩⟩),(44,⟨2,some ⟨75,3,false,c581.map cGEntry⟩⟩)] (.ifc 75 (.agg [.sl 2 (z580.facts.map cF),.c (.int .i64 z580.dist),.c (.int .i64 z580.order)])) rfl rfl (A_container_heap_Pop g c579 u12) ?_;intro _;refine⟨_,lf_assert rfl (bT1 rfl) rfl (fun _ _=>by kernel_rfl),?_⟩;intro _;refine dr_XDLow ?_;refine aSq (aSR ?_);intro _;obtain⟨q13,h⟩:=grd_ok h;obtain⟨z582,u14,h⟩:=ob1_ok h;refine clb_XDLow [85] rfl rfl (A_certify_contains z580.facts x7.2.2.2 u14) ?_;intro _;refine dr_XDLow ?_;refine aCd ?_;intro _;refine spl h (fun c15 h=>?_) (fun c15 h=>?_)
      ·refine aEx ?_;refine⟨(k577,x7.2.1,c581,x7.2.2.2),h,ltS m8,?_⟩;exact ca_XDLow
      ·refine aSk (aSq (aSR ?_));intro _;obtain⟨z583,u16,h⟩:=ob1_ok h;refine cl_XDLow rfl (A_task_Holds z580.facts a0.Init u16) ?_;intro _;refine dr_XDLow ?_;refine aCd ?_;intro _;refine spl h (fun c17 h=>?_) (fun c17 h=>?_)
       ·refine aSR ?_;intro _;refine dr_XDLow ?_;refine aRt ?_;intro _;obtain⟨rfl,rfl⟩:=inj2 h;exact ca_XDLow
       ·refine aSk (aSq (aSR ?_));intro _;refine dr_XDLow ?_;refine aCd ?_;intro _;refine spl h (fun c18 h=>?_) (fun c18 h=>?_)
        ·refine aSR ?_;intro _;refine dr_XDLow ?_;refine aRt ?_;intro _;obtain⟨rfl,rfl⟩:=inj2 h;exact ca_XDLow
        ·refine aSk (aSR ?_);intro _;obtain⟨q19,h⟩:=grd_ok h;refine pl_XDLow ?_;refine pl_XDLow ?_;refine And.intro (by first|with_reducible assumption|(show(x7.2.2.2.length+1)*32≤140737488355328;with_reducible assumption)|omega|(simp;omega)) ?_;refine pe_XDLow ?_;refine dr_XDLow ?_;refine aSR ?_;intro _;refine dr_XDLow ?_;obtain⟨o20,h,hK21⟩:=ob1_ok h;refine awp_cutT (α:=Int×(List GEntry)) (fun(v720,v721)=>mkS 136 [(1,.c (.int .i64 a1)),(2,.c (.int .i64 (max 0 (min a2 4096)))),(3,.ptr 3 0 0 0),(6,.ptr 6 0 0 0),(9,.ptr 9 0 0 0),(10,.ptr 45 0 0 0),(11,.c (.int .i64 v720))] [(3,⟨26,4,true,[[.sl 1 (a0.Vars.map cI),.sl 1 (a0.Init.map cI),.sl 2 (a0.Goal.map cF),.sl 4 (a0.Ops.map cGOp)]]⟩),(6,⟨35,2,true,[[.c (.int .i64 0),.c (.slice none 0 0)]]⟩),(9,⟨35,2,true,[[.c (.int .i64 a1),.own 85 0 0 (x7.2.2.2.length+1)]]⟩),(44,⟨75,3,false,v721.map cGEntry⟩),(45,⟨77,1,true,[[.own 44 0 0 v721.length]]⟩),(85,⟨61,2,false,(x7.2.2.2++[(z580.facts,z580.dist)]).map cN⟩)]) (fun v=>o20=(.inl v)) ?_ ?_
         ·refine aBk ?_;refine awp_loop (α:=Nat×Int×Int×(List GEntry)) (fun x=>mkS 136 [(1,.c (.int .i64 a1)),(2,.c (.int .i64 (max 0 (min a2 4096)))),(3,.ptr 3 0 0 0),(6,.ptr 6 0 0 0),(9,.ptr 9 0 0 0),(10,.ptr 45 0 0 0),(11,.c (.int .i64 x.2.1)),(12,.ptr 12 0 0 0),(88,.sl 4 (a0.Ops.map cGOp)),(89,.c (.int .i64 ((a0.Ops.map cGOp).length:Int))),(90,.c (.int .i64 x.2.2.1))] [(3,⟨26,4,true,[[.sl 1 (a0.Vars.map cI),.sl 1 (a0.Init.map cI),.sl 2 (a0.Goal.map cF),.sl 4 (a0.Ops.map cGOp)]]⟩),(6,⟨35,2,true,[[.c (.int .i64 0),.c (.slice none 0 0)]]⟩),(9,⟨35,2,true,[[.c (.int .i64 a1),.own 85 0 0 (x7.2.2.2.length+1)]]⟩),(12,⟨75,3,true,[[.sl 2 (z580.facts.map cF),.c (.int .i64 z580.dist),.c (.int .i64 z580.order)]]⟩),(44,⟨75,3,false,x.2.2.2.map cGEntry⟩),(45,⟨77,1,true,[[.own 44 0 0 x.2.2.2.length]]⟩),(85,⟨61,2,false,(x7.2.2.2++[(z580.facts,z580.dist)]).map cN⟩)]) (fun x=>M_certify_Lower_L2 a0 a1 g z580 x.1 x.2.1 x.2.2.1 x.2.2.2=some o20) (fun x=>x.1) ((((a0.Ops.map cGOp).length:Int)).toNat+1,x7.2.1,0,c581) h ?_ ?_
          ·exact ca_XDLow
          ·intro x22 h;intro _;obtain⟨k817,m23,h⟩:=succ_of (f:=fun n=>M_certify_Lower_L2 a0 a1 g z580 n x22.2.1 x22.2.2.1 x22.2.2.2) rfl h;replace h:M_certify_Lower_L2 a0 a1 g z580 (k817+1) x22.2.1 x22.2.2.1 x22.2.2.2=some o20:=h;rw[M_certify_Lower_L2]at h;refine aSR ?_;intro _;refine dr_XDLow ?_;refine aSq (aCd ?_);intro _;refine spl h (fun c24 h=>?_) (fun c24 h=>?_)
           ·refine aSk ?_;obtain⟨o25,h,hK26⟩:=ob1_ok h;refine awp_cut (α:=Int×(List GEntry)) (fun(v837,v838)=>mkS 136 [(1,.c (.int .i64 a1)),(2,.c (.int .i64 (max 0 (min a2 4096)))),(3,.ptr 3 0 0 0),(6,.ptr 6 0 0 0),(9,.ptr 9 0 0 0),(10,.ptr 45 0 0 0),(11,.c (.int .i64 v837)),(12,.ptr 12 0 0 0),(88,.sl 4 (a0.Ops.map cGOp)),(89,.c (.int .i64 ((a0.Ops.map cGOp).length:Int))),(90,.c (.int .i64 x22.2.2.1))] [(3,⟨26,4,true,[[.sl 1 (a0.Vars.map cI),.sl 1 (a0.Init.map cI),.sl 2 (a0.Goal.map cF),.sl 4 (a0.Ops.map cGOp)]]⟩),(6,⟨35,2,true,[[.c (.int .i64 0),.c (.slice none 0 0)]]⟩),(9,⟨35,2,true,[[.c (.int .i64 a1),.own 85 0 0 (x7.2.2.2.length+1)]]⟩),(12,⟨75,3,true,[[.sl 2 (z580.facts.map cF),.c (.int .i64 z580.dist),.c (.int .i64 z580.order)]]⟩),(44,⟨75,3,false,v838.map cGEntry⟩),(45,⟨77,1,true,[[.own 44 0 0 v838.length]]⟩),(85,⟨61,2,false,(x7.2.2.2++[(z580.facts,z580.dist)]).map cN⟩)]) (fun v=>o25=(.inl v)) ?_ ?_
            ·refine aBk (aSR ?_);intro _;obtain⟨y842,w27,q28,h⟩:=ix_ok h;refine Exists.intro (cGOp y842) (And.intro (map_at' w27) ?_);intro _;refine pr_XDLow ?_;refine dr_XDLow ?_;refine aSR ?_;intro _;refine dr_XDLow ?_;obtain⟨o29,h,hK30⟩:=ob1_ok h;refine awp_cut (α:=Int) (fun v843=>mkS 136 [(1,.c (.int .i64 a1)),(2,.c (.int .i64 (max 0 (min a2 4096)))),(3,.ptr 3 0 0 0),(6,.ptr 6 0 0 0),(9,.ptr 9 0 0 0),(10,.ptr 45 0 0 0),(11,.c (.int .i64 x22.2.1)),(12,.ptr 12 0 0 0),(14,.c (.int .i64 x22.2.2.1)),(16,.c (.int .i64 v843)),(88,.sl 4 (a0.Ops.map cGOp)),(89,.c (.int .i64 ((a0.Ops.map cGOp).length:Int))),(90,.c (.int .i64 x22.2.2.1))] [(3,⟨26,4,true,[[.sl 1 (a0.Vars.map cI),.sl 1 (a0.Init.map cI),.sl 2 (a0.Goal.map cF),.sl 4 (a0.Ops.map cGOp)]]⟩),(6,⟨35,2,true,[[.c (.int .i64 0),.c (.slice none 0 0)]]⟩),(9,⟨35,2,true,[[.c (.int .i64 a1),.own 85 0 0 (x7.2.2.2.length+1)]]⟩),(12,⟨75,3,true,[[.sl 2 (z580.facts.map cF),.c (.int .i64 z580.dist),.c (.int .i64 z580.order)]]⟩),(44,⟨75,3,false,x22.2.2.2.map cGEntry⟩),(45,⟨77,1,true,[[.own 44 0 0 x22.2.2.2.length]]⟩),(85,⟨61,2,false,(x7.2.2.2++[(z580.facts,z580.dist)]).map cN⟩)]) (fun v=>o29=(.inl v)) ?_ ?_
             ·refine aSR ?_;intro _;refine dr_XDLow ?_;refine aCd ?_;intro _;refine spl h (fun c31 h=>?_) (fun c31 h=>?_)
              ·refine aRg ?_;intro _;refine dr_XDLow ?_;refine⟨0,(sI_ h).symm,?_⟩;exact ca_XDLow
              ·refine aSR ?_;intro _;refine dr_XDLow ?_;refine aCd ?_;intro _;refine spl h (fun c32 h=>?_) (fun c32 h=>?_)
               ·refine aEx ?_;have j33:=sI_ h;subst j33;replace h:=(osum_r hK30);refine⟨(x22.2.1,x22.2.2.2),(sI_ h).symm,?_⟩;exact ca_XDLow
               ·refine aSk ?_;refine⟨(IntKind.i64.wrap (z580.dist+y842.Cost)),(sI_ h).symm,?_⟩;exact ca_XDLow
             ·rintro v843 ho;have ho:=ho.symm;subst ho;intro _;replace h:=(osum_l hK30);refine aSR ?_;intro _;obtain⟨z845,z846,u34,h⟩:=ob2_ok h;refine cl_XDLow rfl (A_g_Regress g a0 x22.2.2.1 z580.facts u34) ?_;intro _;refine dr_XDLow ?_;refine aSq (aSq ?_);rcases z846 with _|e847
              ·replace h:=erM_nil h;refine aRg ?_;intro _;refine dr_XDLow ?_;refine aCd ?_;intro _;refine litF (aSk (aSR ?_));intro _;refine dr_XDLow ?_;refine aBk ?_;refine awp_loop (α:=Nat×Int×Int×(List GEntry)) (fun x=>mkS 136 [(1,.c (.int .i64 a1)),(2,.c (.int .i64 (max 0 (min a2 4096)))),(3,.ptr 3 0 0 0),(6,.ptr 6 0 0 0),(9,.ptr 9 0 0 0),(10,.ptr 45 0 0 0),(11,.c (.int .i64 x.2.1)),(12,.ptr 12 0 0 0),(16,.c (.int .i64 v843)),(88,.sl 4 (a0.Ops.map cGOp)),(89,.c (.int .i64 ((a0.Ops.map cGOp).length:Int))),(90,.c (.int .i64 x22.2.2.1)),(117,.sl 1 (z845.map cL_cF)),(118,.c (.int .i64 ((z845.map cL_cF).length:Int))),(119,.c (.int .i64 x.2.2.1))] [(3,⟨26,4,true,[[.sl 1 (a0.Vars.map cI),.sl 1 (a0.Init.map cI),.sl 2 (a0.Goal.map cF),.sl 4 (a0.Ops.map cGOp)]]⟩),(6,⟨35,2,true,[[.c (.int .i64 0),.c (.slice none 0 0)]]⟩),(9,⟨35,2,true,[[.c (.int .i64 a1),.own 85 0 0 (x7.2.2.2.length+1)]]⟩),(12,⟨75,3,true,[[.sl 2 (z580.facts.map cF),.c (.int .i64 z580.dist),.c (.int .i64 z580.order)]]⟩),(44,⟨75,3,false,x.2.2.2.map cGEntry⟩),(45,⟨77,1,true,[[.own 44 0 0 x.2.2.2.length]]⟩),(85,⟨61,2,false,(x7.2.2.2++[(z580.facts,z580.dist)]).map cN⟩)]) (fun x=>M_certify_Lower_L1 g v843 z845 x.1 x.2.1 x.2.2.1 x.2.2.2=some o25) (fun x=>x.1) ((((z845.map cL_cF).length:Int)).toNat+1,x22.2.1,0,x22.2.2.2) h ?_ ?_
               ·exact ca_XDLow
               ·intro x35 h;intro _;obtain⟨k858,m36,h⟩:=succ_of (f:=fun n=>M_certify_Lower_L1 g v843 z845 n x35.2.1 x35.2.2.1 x35.2.2.2) rfl h;replace h:M_certify_Lower_L1 g v843 z845 (k858+1) x35.2.1 x35.2.2.1 x35.2.2.2=some o25:=h;rw[M_certify_Lower_L1]at h;refine aSR ?_;intro _;refine dr_XDLow ?_;refine aSq (aCd ?_);intro _;refine spl h (fun c37 h=>?_) (fun c37 h=>?_)
                ·refine aSk (aSq (aBk (aSR ?_)));intro _;obtain⟨y859,w38,q39,h⟩:=ix_ok h;refine Exists.intro (cL_cF y859) (And.intro (map_at' w38) ?_);intro _;refine pr_XDLow ?_;refine dr_XDLow ?_;refine aSR ?_;intro _;obtain⟨c860,u40,h⟩:=ob1_ok h;refine clg_XDLow [(14,45),(0,44)] [] [(44,⟨1,none⟩)] [(45,⟨0,some ⟨77,1,true,[[.own 44 2 0 c860.length]]⟩⟩),(44,⟨2,some ⟨75,3,false,c860.map cGEntry⟩⟩)] (.tup []) rfl rfl (A_container_heap_Push g x35.2.2.2 ({ facts:=y859,dist:=v843,order:=x35.2.1:GEntry }) u40) ?_;intro _;refine dr_XDLow ?_;refine aRg ?_;intro _;refine dr_XDLow ?_;refine aRg ?_;intro _;refine dr_XDLow ?_;refine⟨(k858,(IntKind.i64.wrap (x35.2.1+1)),(IntKind.i64.wrap (x35.2.2.1+1)),c860),h,ltS m36,?_⟩;exact ca_XDLow
                ·refine aEx ?_;refine⟨(x35.2.1,x35.2.2.2),(sI_ h).symm,?_⟩;exact ca_XDLow
              ·replace h:=erM_no h;refine aRg ?_;intro _;refine dr_XDLow ?_;refine aCd ?_;intro _;refine litT (aSR ?_);intro _;refine dr_XDLow ?_;refine aRt ?_;have j41:=sI_ h;subst j41;replace h:=(osum_r hK26);have j42:=sI_ h;subst j42;replace h:=(osum_r hK21);intro _;obtain⟨rfl,rfl⟩:=inj2 h;exact ca_XDLow
            ·rintro⟨v837,v838⟩ ho;have ho:=ho.symm;subst ho;intro _;replace h:=(osum_l hK26);refine aRg ?_;intro _;refine dr_XDLow ?_;refine⟨(k817,v837,(IntKind.i64.wrap (x22.2.2.1+1)),v838),h,ltS m23,?_⟩;exact ca_XDLow
           ·refine aEx ?_;refine⟨(x22.2.1,x22.2.2.2),(sI_ h).symm,?_⟩;exact ca_XDLow
         ·rintro⟨v720,v721⟩ ho;have ho:=ho.symm;subst ho;intro _;replace h:=(osum_l hK21);refine⟨(k577,v720,v721,(x7.2.2.2++[(z580.facts,z580.dist)])),h,ltS m8,?_⟩;exact ca_XDLow
     ·refine aEx (aSR ?_);intro _;refine dr_XDLow ?_;refine aRt ?_;obtain⟨q43,h⟩:=grd_ok h;intro _;obtain⟨rfl,rfl⟩:=inj2 h;exact ca_XDLow
 ·replace h:=erM_no h;refine aRg ?_;intro _;refine dr_XDLow ?_;refine aCd ?_;intro _;refine litT (aSR ?_);intro _;refine dr_XDLow ?_;refine aRt ?_;intro _;obtain⟨rfl,rfl⟩:=inj2 h;exact ca_XDLow
set_option maxHeartbeats 16000000
set_option maxRecDepth 100000
open Go.RowKit
structure GCover where
 vars:List Int
 used:Int
 steps:Int
 full:Bool
 deriving DecidableEq
def cGCover (x:GCover):List AV:=[.sl 1 (x.vars.map cI),.c (.int .i64 x.used),.c (.int .i64 x.steps),.c (.bool x.full)]
theorem fr_cGCover (x:GCover):∀ y∈cGCover x,Fr y:=FrC_cons (.sl (frl_cI _)) (FrC_cons (.c _) (FrC_cons (.c _) (FrC_cons (.c _) (FrC_nil))))
theorem frl_cGCover (l:List GCover):FrL (l.map cGCover):=FrL_map (fun x _=>fr_cGCover x)
instance {l:List GCover}:FrI (l.map cGCover):=⟨frl_cGCover l⟩
theorem zb_XDCov {P:Prop}(h:P:=by repeat (first|exact BWL.nil|exact bwll_nil|exact bw_c|exact BW.sl|exact BW.nil|exact bwll_same rfl FrI.h|refine BWL.cons ?_ ?_|refine bwll_cons ?_ ?_|(refine bw_own3 rfl rfl rfl FrI.h ?_ ?_ ?_)|exact BW.fr FrV.h|exact BW.fr (by assumption)|refine bw_agg ?_|refine bw_clo ?_|refine bw_ptr rfl rfl rfl ?_|(refine bw_own rfl rfl rfl ?_ FrI.h ?_ ?_)|assumption|omega|rfl|(rw[lM_,← lA_];assumption)|(refine bwll_same ?_ FrI.h;(simp[cI,cF,cL_cF,cGCover] <;> fail))|(rw[List.map_set];refine bwll_set (by first|rfl|omega|simp) ?_ ?_)|refine bwll_set (by first|rfl|omega|simp) ?_ ?_|(rw[List.map_replicate];refine bwll_rep ?_)|refine bwll_rep ?_|(rw[List.map_append];refine bwll_append ?_ ?_)|refine bwll_append ?_ ?_|(simp[cI,cF,cL_cF,cGCover,take_len_map] <;> fail)|(rw[List.drop_zero,tL_] <;> first|rfl|(simp[cI,cF,cL_cF,cGCover] <;> fail))|(simp;omega)|(simp only[lM_,lA_,List.drop_zero,lC_,lN_,Nat.zero_add,Nat.add_zero]at *;omega))):P:=h
theorem zg_XDCov {P:Prop}(h:P:=by repeat (first|exact True.intro|exact gb_nil rfl rfl|exact gb_take rfl ⟨rfl,rfl,rfl⟩ List.map_take FrI.h|refine gb_some ⟨rfl,rfl,rfl⟩ ?_|refine And.intro ?_ ?_|refine gw_ren rfl rfl rfl rfl rfl ?_|exact gw_oren rfl rfl rfl rfl rfl|exact gw_opren rfl rfl rfl rfl rfl|exact gw_onil rfl rfl|exact gw_mren rfl rfl rfl rfl|refine gw_pren rfl rfl rfl rfl rfl|exact gw_thaw rfl rfl rfl|refine gw_tup ?_|refine gw_ifc ?_|exact GWL.nil|exact gwll_nil|exact gw_c|exact GW.sl|exact GW.nil|exact gwll_same rfl FrI.h|refine GWL.cons ?_ ?_|refine gwll_cons ?_ ?_|(refine gw_own3 rfl rfl rfl FrI.h ?_ ?_ ?_)|exact GW.fr FrV.h|exact GW.fr (by assumption)|refine gw_agg ?_|refine gw_clo ?_|refine gw_ptr rfl rfl rfl ?_|(refine gw_own rfl rfl rfl ?_ FrI.h ?_ ?_)|assumption|omega|rfl|(rw[lM_,← lA_];assumption)|(refine gwll_same ?_ FrI.h;(simp[cI,cF,cL_cF,cGCover] <;> fail))|(rw[List.map_set];refine gwll_set (by first|rfl|omega|simp) ?_ ?_)|refine gwll_set (by first|rfl|omega|simp) ?_ ?_|(rw[List.map_replicate];refine gwll_rep ?_)|refine gwll_rep ?_|(rw[List.map_append];refine gwll_append ?_ ?_)|refine gwll_append ?_ ?_|(simp[cI,cF,cL_cF,cGCover,take_len_map] <;> fail)|(rw[List.drop_zero,tL_] <;> first|rfl|(simp[cI,cF,cL_cF,cGCover] <;> fail))|(simp;omega)|(simp only[lM_,lA_,List.drop_zero,lC_,lN_,Nat.zero_add,Nat.add_zero]at *;omega))):P:=h
theorem ci_XDCov {p K:Prop}(k:K)(h:p:=by first|rfl|exact⟨rfl,rfl⟩|exact BW.fr FrV.h|(refine BW.fr ?_;assumption)|(refine⟨rfl,?_⟩;(simp[cI,cF,cL_cF,cGCover,take_len_map];done))|(refine RowK.same ?_ FrI.h;first|rfl|(simp[cI,cF,cL_cF,cGCover,take_len_map];done))|(refine row_part1 ?_;(exact zb_XDCov);done)|((exact zb_XDCov);done)|(simp[cI,cF,cL_cF,cGCover,take_len_map];done)):p∧K:=⟨h,k⟩
theorem ca_XDCov {P:Prop}(h:P:=by repeat (first|exact True.intro|refine ci_XDCov ?_)):P:=h
theorem pr_XDCov {p K:Prop}(k:K)(h:p:=by first|assumption|exact Int.natCast_nonneg _|exact Nat.le_refl _|exact Nat.zero_le _|omega|(simp;done)|(simp;omega)):p∧K:=⟨h,k⟩
theorem pl_XDCov {p K:Prop}(k:K)(h:p:=by first|rfl|exact lM_ _|(simp;done)|(simp;omega)):p∧K:=⟨h,k⟩
theorem pe_XDCov {p K:Prop}(k:K)(h:p:=by first|omega|(simp;omega)|(simp only[lM_,lC_,lN_,lA_];omega)|(simp only[lM_,List.drop_zero,lC_,lN_,Nat.zero_add,Nat.add_zero]at *;omega)):p∧K:=⟨h,k⟩
theorem dr_XDCov {b:Bool}{p K:Prop}(k:K)(h:b=true→p:=by intro h;first|(cases h;done)|exact⟨by kernel_rfl,by kernel_rfl⟩):(b=true→p)∧K:=⟨h,k⟩
theorem cl_XDCov {C:Cx}{n:Nat}{o:Oper}{τ:Nat→AV}{η:Nat→Ent}{f:FuncId}{os:Array Operand}{ats:Array TypeId}{r:AV}{args:List AV}{K:Foot→Prop}(ho:o.op=.call ⟨.value (.func f),os,ats⟩)(hc:ACall C f args r)(k:K ⟨r,[],[]⟩)
  (hd:InB n o.dst:=by exact bT1 rfl) (hargs:os.toList.map (evA τ)=args:=by first|rfl|(simp[cI,cF,cL_cF,cGCover];done)|(repeat (first|exact rfl|refine cons_eq ?_ ?_|exact sl_dt rfl))) (hfr:frs args:=by repeat (first|exact trivial|exact fr1_eA _|exact fr0_eA _|exact fr1_fr (by assumption)|exact FrV.h|exact fr1_fr FrV.h|refine And.intro ?_ ?_)) (hr:fr1 r:=by repeat (first|exact trivial|exact fr1_eA _|exact fr0_eA _|exact fr1_fr (by assumption)|exact FrV.h|exact fr1_fr FrV.h|refine And.intro ?_ ?_)):∃ f:Foot,LF C n o τ η f∧K f:=⟨_,lf_call ho hd hargs hc hfr hr,k⟩
theorem clb_XDCov {C:Cx}{n:Nat}{o:Oper}{τ:Nat→AV}{η:Nat→Ent}{f:FuncId}{os:Array Operand}{ats:Array TypeId}{r:AV}{xs ys:List AV}{K:Foot→Prop}(bs:List Nat)(ho:o.op=.call ⟨.value (.func f),os,ats⟩)(hargs:os.toList.map (evA τ)=xs)(hc:ACall C f ys r)(k:K ⟨r,[],bs⟩)
  (hd:InB n o.dst:=by exact bT1 rfl) (hb:BWL η (dropB η bs) xs ys:=by exact zb_XDCov) (hr:scal r:=by repeat (first|exact trivial|exact scal0_eA _|exact scal_eA _|refine And.intro ?_ ?_)):∃ f:Foot,LF C n o τ η f∧K f:=⟨_,lf_callB bs ho hd hargs hb hc hr,k⟩
theorem clg_XDCov {C:Cx}{n:Nat}{o:Oper}{τ:Nat→AV}{η:Nat→Ent}{f:FuncId}{os:Array Operand}{ats:Array TypeId}{r:AV}{xs ys:List AV}{bs bs':List (Nat×Blk)}{ks:List Nat}{K:Foot→Prop}(ρ:List (Nat×Nat))(fz:List Nat)(go nb:List (Nat×Ent))(r':AV)(ho:o.op=.call ⟨.value (.func f),os,ats⟩)(hargs:os.toList.map (evA τ)=xs)
  (hc:ACallG C f ys bs ks r bs') (k:K ⟨r',go++nb,[]⟩) (hd:InB n o.dst:=by exact bT1 rfl) (hok:okC ρ fz bs ks bs' (idsE go)=true:=by rfl) (hgo:allUs η go:=by repeat (first|exact trivial|refine And.intro rfl ?_)) (hgl:ltUs n go:=by repeat (first|exact trivial|refine And.intro (bT1 rfl) ?_))
  (hw:GWL η (fE bs) (lk ρ) (fun i=>inB fz i=true) (fun i=>inB (keys bs) i=true) xs ys:=by exact zg_XDCov) (hb:GBL η (fE bs) (lk ρ) (fun i=>inB fz i=true) (fun i=>inB (keys bs) i=true) bs:=by exact zg_XDCov)
  (hr:GW (fE bs') (updAll η (go++nb)) (lk (backN ρ bs')) (fun _=>False) (fun i=>inB (idsE nb) i=true) r r':=by exact zg_XDCov)
  (hnb:nbOk n η (updAll η (go++nb)) ρ ks (fE bs') (lk (backN ρ bs')) (fun i=>inB (idsE nb) i=true) bs' nb:=by repeat (first|exact True.intro|rfl|exact bT1 rfl|exact gb_nil rfl rfl|exact gb_take rfl ⟨rfl,rfl,rfl⟩ List.map_take FrI.h|refine gb_some ⟨rfl,rfl,rfl⟩ ?_|refine And.intro ?_ ?_|refine gw_ren rfl rfl rfl rfl rfl ?_|exact gw_oren rfl rfl rfl rfl rfl|exact gw_opren rfl rfl rfl rfl rfl|exact gw_onil rfl rfl|exact gw_mren rfl rfl rfl rfl|refine gw_pren rfl rfl rfl rfl rfl|exact gw_thaw rfl rfl rfl|refine gw_tup ?_|refine gw_ifc ?_|exact GWL.nil|exact gwll_nil|exact gw_c|exact GW.sl|exact GW.nil|exact gwll_same rfl FrI.h|refine GWL.cons ?_ ?_|refine gwll_cons ?_ ?_|(refine gw_own3 rfl rfl rfl FrI.h ?_ ?_ ?_)|exact GW.fr FrV.h|exact GW.fr (by assumption)|refine gw_agg ?_|refine gw_clo ?_|refine gw_ptr rfl rfl rfl ?_|(refine gw_own rfl rfl rfl ?_ FrI.h ?_ ?_)|assumption|omega|rfl|(rw[lM_,← lA_];assumption)|(refine gwll_same ?_ FrI.h;(simp[cI,cF,cL_cF,cGCover] <;> fail))|(rw[List.map_set];refine gwll_set (by first|rfl|omega|simp) ?_ ?_)|refine gwll_set (by first|rfl|omega|simp) ?_ ?_|(rw[List.map_replicate];refine gwll_rep ?_)|refine gwll_rep ?_|(rw[List.map_append];refine gwll_append ?_ ?_)|refine gwll_append ?_ ?_|(simp[cI,cF,cL_cF,cGCover,take_len_map] <;> fail)|(rw[List.drop_zero,tL_] <;> first|rfl|(simp[cI,cF,cL_cF,cGCover] <;> fail))|(simp;omega)|(simp only[lM_,lA_,List.drop_zero,lC_,lN_,Nat.zero_add,Nat.add_zero]at *;omega))):∃ f:Foot,LF C n o τ η f∧K f:=⟨_,lf_callG ρ fz go nb ho hd hargs hc hok hgo hgl hw hb hr hnb,k⟩
def M_p_Covered_1 (b0:List Int)(a0:List Fact):Option (Bool):=ob1 (M_task_Facts b0 a0) (fun z1=>some (!z1))
theorem A_p_Covered_1 (b0:List Int)(a0:List Fact){r1:Bool}(h:M_p_Covered_1 b0 a0=some r1):ACall cx 96 [.sl 2 (a0.map cF),.pim [.sl 1 (b0.map cI)] 0] (.c (.bool r1)):=by
 refine aOf Tryz.func96 rfl (by decide) rfl (bT1 rfl) ?_;intro _;unfold M_p_Covered_1 at h;refine aSR ?_;intro _;refine dr_XDCov ?_;refine aSR ?_;intro _;obtain⟨z1,u1,h⟩:=ob1_ok h;refine cl_XDCov rfl (A_task_Facts b0 a0 u1) ?_;intro _;refine dr_XDCov ?_;refine aRt ?_;intro _;obtain rfl:=inj1 h;exact ca_XDCov
def M_p_conflict_L1 (a0:List Fact)(a1:List Fact):Nat→Int→Option (Bool)|0,_=>none|k7+1,v6=>sel (decide (v6<((a1.map cF).length:Int))) (ix a1 v6 (fun y8=>ob1 (M_p_find a0 y8.1) (fun z9=>sel (decide (z9≥0)) (sel (z9 != y8.2) (some true) (M_p_conflict_L1 a0 a1 k7 (IntKind.i64.wrap (v6+1)))) (M_p_conflict_L1 a0 a1 k7 (IntKind.i64.wrap (v6+1)))))) (some false)
def M_p_conflict (a0:List Fact)(a1:List Fact):Option (Bool):=M_p_conflict_L1 a0 a1 ((((a1.map cF).length:Int)).toNat+1) 0
theorem A_p_conflict (a0:List Fact)(a1:List Fact){r1:Bool}(h:M_p_conflict a0 a1=some r1):ACall cx 125 [.sl 2 (a0.map cF),.sl 2 (a1.map cF)] (.c (.bool r1)):=by
 refine aOf Tryz.func125 rfl (by decide) rfl (bT1 rfl) ?_;intro _;unfold M_p_conflict at h;refine aSR ?_;intro _;refine dr_XDCov ?_;refine aSq (aSR ?_);intro _;refine dr_XDCov ?_;refine aBk ?_;refine awp_loop (α:=Nat×Int) (fun x=>mkS 27 [(0,.sl 2 (a0.map cF)),(8,.sl 2 (a1.map cF)),(9,.c (.int .i64 ((a1.map cF).length:Int))),(10,.c (.int .i64 x.2))] []) (fun x=>M_p_conflict_L1 a0 a1 x.1 x.2=some r1) (fun x=>x.1) ((((a1.map cF).length:Int)).toNat+1,0) h ?_ ?_
 ·exact ca_XDCov
 ·intro x1 h;intro _;obtain⟨k7,m2,h⟩:=succ_of (f:=fun n=>M_p_conflict_L1 a0 a1 n x1.2) rfl h;replace h:M_p_conflict_L1 a0 a1 (k7+1) x1.2=some r1:=h;rw[M_p_conflict_L1]at h;refine aSR ?_;intro _;refine dr_XDCov ?_;refine aSq (aCd ?_);intro _;refine spl h (fun c3 h=>?_) (fun c3 h=>?_)
  ·refine aSk (aSq (aBk (aSR ?_)));intro _;obtain⟨y8,w4,q5,h⟩:=ix_ok h;refine Exists.intro (cF y8) (And.intro (map_at' w4) ?_);intro _;refine pr_XDCov ?_;refine dr_XDCov ?_;refine aSR ?_;intro _;obtain⟨z9,u6,h⟩:=ob1_ok h;refine cl_XDCov rfl (A_p_find a0 y8.1 u6) ?_;intro _;refine dr_XDCov ?_;refine aSR ?_;intro _;refine spl h (fun c7 h=>?_) (fun c7 h=>?_)
   ·intro _;refine dr_XDCov ?_;refine aCd ?_;intro _;refine spl h (fun c8 h=>?_) (fun c8 h=>?_)
    ·refine aSR ?_;intro _;refine dr_XDCov ?_;refine aRt ?_;intro _;obtain rfl:=inj1 h;exact ca_XDCov
    ·refine aSk (aRg ?_);intro _;refine dr_XDCov ?_;refine⟨(k7,(IntKind.i64.wrap (x1.2+1))),h,ltS m2,?_⟩;exact ca_XDCov
   ·intro _;refine dr_XDCov ?_;refine aCd ?_;intro _;refine litF (aSk (aRg ?_));intro _;refine dr_XDCov ?_;refine⟨(k7,(IntKind.i64.wrap (x1.2+1))),h,ltS m2,?_⟩;exact ca_XDCov
  ·refine aEx (aSR ?_);intro _;refine dr_XDCov ?_;refine aRt ?_;intro _;obtain rfl:=inj1 h;exact ca_XDCov
def M_pc_decide_L1 (a0:GCover)(a1:List Fact)(a2:List (List Fact)):Nat→Int→(List (List Fact))→Option ((List (List Fact))⊕(Bool×GCover))|0,_,_=>none|k29+1,v27,v28=>sel (decide (v27<((a2.map cL_cF).length:Int))) (ix a2 v27 (fun y30=>ob1 (M_p_contains a1 y30) (fun z31=>sel z31 (some (.inr (true,{ vars:=a0.vars,used:=(IntKind.i64.wrap (a0.used+1)),steps:=a0.steps,full:=a0.full:GCover }))) (ob1 (M_p_conflict a1 y30) (fun z32=>sel (!z32) (grd ((v28.length+1)*24≤140737488355328) (M_pc_decide_L1 a0 a1 a2 k29 (IntKind.i64.wrap (v27+1)) (v28++[y30]))) (M_pc_decide_L1 a0 a1 a2 k29 (IntKind.i64.wrap (v27+1)) v28)))))) (some (.inl v28))
def M_pc_decide_L2 (a1:List Fact)(y189:List Fact):Nat→Int→Int→Option (Int)|0,_,_=>none|k198+1,v196,v197=>sel (decide (v197<((y189.map cF).length:Int))) (ix y189 v197 (fun y199=>sel (decide (y199.1<v196)) (ob1 (M_p_find a1 y199.1) (fun z200=>sel (decide (z200<0)) (M_pc_decide_L2 a1 y189 k198 y199.1 (IntKind.i64.wrap (v197+1))) (M_pc_decide_L2 a1 y189 k198 v196 (IntKind.i64.wrap (v197+1))))) (M_pc_decide_L2 a1 y189 k198 v196 (IntKind.i64.wrap (v197+1))))) (some v196)
def M_pc_decide_L3 (a1:List Fact)(v15:List (List Fact)):Nat→Int→Int→Option (Int)|0,_,_=>none|k174+1,v172,v173=>sel (decide (v173<((v15.length:Nat):Int))) (ob1 (ixn v15 ((v173).toNat) (fun y189=>grd (0≤v173) (grd (v173<((v15.length:Nat):Int)) (M_pc_decide_L2 a1 y189 ((((y189.map cF).length:Int)).toNat+1) v172 0))):Option (Int)) (fun v187=>M_pc_decide_L3 a1 v15 k174 v187 (IntKind.i64.wrap (v173+1)))) (some v172)
def M_pc_decide_L4 (a1:List Fact)(rec:GCover→(List Fact)→(List (List Fact))→Option (Bool×GCover))(v116:Int)(y201:Int):Nat→(List (List Fact))→Int→(List Int)→Int→Int→Bool→Option (Bool×GCover)|0,_,_,_,_,_,_=>none|k221+1,v215,v216,v217,v218,v219,v220=>sel (decide (v216<y201)) (ob1 (M_with a1 (v116,v216)) (fun z222=>grd (z222.length≤140737488355328) (ob2 (rec ({ vars:=v217,used:=v218,steps:=v219,full:=v220:GCover }) z222 v215) (fun z223 c224=>sel (!z223) (some (false,c224)) (M_pc_decide_L4 a1 rec v116 y201 k221 v215 (IntKind.i64.wrap (v216+1)) c224.vars c224.used c224.steps c224.full))))) (some (true,{ vars:=v217,used:=v218,steps:=v219,full:=v220:GCover }))
def M_pc_decide : Nat→GCover→(List Fact)→(List (List Fact))→Option (Bool×GCover)|0,_,_,_=>none|g+1,a0,a1,a2=>sel (decide (a0.used≥a0.steps)) (some (false,{ vars:=a0.vars,used:=a0.used,steps:=a0.steps,full:=true:GCover })) (ob1 (M_pc_decide_L1 a0 a1 a2 ((((a2.map cL_cF).length:Int)).toNat+1) 0 []:Option ((List (List Fact))⊕(Bool×GCover))) (osum (fun v15=>ob1 (M_pc_decide_L3 a1 v15 ((((v15.length:Nat):Int)).toNat+1) ((a0.vars.map cI).length:Int) 0:Option (Int)) (fun v116=>sel (v116 == ((a0.vars.map cI).length:Int)) (some (false,{ vars:=a0.vars,used:=(IntKind.i64.wrap (a0.used+1)),steps:=a0.steps,full:=a0.full:GCover })) (ix a0.vars v116 (fun y201=>grd (v15.length≤140737488355328) (M_pc_decide_L4 a1 (M_pc_decide g) v116 y201 ((y201).toNat+1) v15 0 a0.vars (IntKind.i64.wrap (a0.used+1)) a0.steps a0.full))))) (fun(r16,r17)=>some (r16,r17))))
theorem A_pc_decide : ∀ (g:Nat)(a0:GCover)(a1:List Fact)(a2:List (List Fact)){r1:Bool}{r2:GCover}(_:M_pc_decide g a0 a1 a2=some (r1,r2)),ACallG cx 97 [.ptr 112 0 0 0,.sl 2 (a1.map cF),.sl 1 (a2.map cL_cF)] [(112,⟨164,4,true,[[.sl 1 (a0.vars.map cI),.c (.int .i64 a0.used),.c (.int .i64 a0.steps),.c (.bool a0.full)]]⟩)] [112] (.c (.bool r1)) [(112,⟨164,4,true,[[.sl 1 (r2.vars.map cI),.c (.int .i64 r2.used),.c (.int .i64 r2.steps),.c (.bool r2.full)]]⟩)]
 := by
 intro g
 induction g with
 | zero=>intros;rename_i h;rw[M_pc_decide]at h;cases h
 | succ g ih =>
  intro a0 a1 a2 r1 r2 h;refine acallg_of 115 Tryz.func97 rfl (by decide) rfl (bT1 rfl) rfl rfl ?_;intro _;rw[M_pc_decide]at h;refine aSR ?_;intro _;refine dr_XDCov ?_;refine aSq (aSR ?_);intro _;refine dr_XDCov ?_;refine aCd ?_;intro _;refine spl h (fun c1 h=>?_) (fun c1 h=>?_)
  ·refine aSR ?_;intro _;refine dr_XDCov ?_;refine aSR ?_;intro _;refine dr_XDCov ?_;refine aRt ?_;intro _;obtain⟨rfl,rfl⟩:=inj2 h;all_goals (refine Exists.intro [] (And.intro rfl (And.intro ?_ ?_)));all_goals (exact zg_XDCov)
  ·refine aSk (aSR ?_);intro _;refine dr_XDCov ?_;refine aSR ?_;intro _;refine dr_XDCov ?_;obtain⟨o2,h,hK3⟩:=ob1_ok h;refine awp_cut (α:=List (List Fact)) (fun v15=>mkG 112 115 [(0,.ptr 112 0 0 0),(1,.sl 2 (a1.map cF)),(7,.own 51 0 0 v15.length)] [(51,⟨23,1,false,v15.map cL_cF⟩),(112,⟨164,4,true,[[.sl 1 (a0.vars.map cI),.c (.int .i64 (IntKind.i64.wrap (a0.used+1))),.c (.int .i64 a0.steps),.c (.bool a0.full)]]⟩)]) (fun v=>o2=(.inl v)) ?_ ?_
   ·refine aSR ?_;intro _;refine dr_XDCov ?_;refine aBk ?_;refine awp_loop (α:=Nat×Int×(List (List Fact))) (fun x=>mkG 112 115 [(0,.ptr 112 0 0 0),(1,.sl 2 (a1.map cF)),(7,.own 51 0 0 x.2.2.length),(35,.sl 1 (a2.map cL_cF)),(36,.c (.int .i64 ((a2.map cL_cF).length:Int))),(37,.c (.int .i64 x.2.1))] [(51,⟨23,1,false,x.2.2.map cL_cF⟩),(112,⟨164,4,true,[[.sl 1 (a0.vars.map cI),.c (.int .i64 (IntKind.i64.wrap (a0.used+1))),.c (.int .i64 a0.steps),.c (.bool a0.full)]]⟩)]) (fun x=>M_pc_decide_L1 a0 a1 a2 x.1 x.2.1 x.2.2=some o2) (fun x=>x.1) ((((a2.map cL_cF).length:Int)).toNat+1,0,[]) h ?_ ?_
    ·exact ca_XDCov
    ·intro x4 h;intro _;obtain⟨k29,m5,h⟩:=succ_of (f:=fun n=>M_pc_decide_L1 a0 a1 a2 n x4.2.1 x4.2.2) rfl h;replace h:M_pc_decide_L1 a0 a1 a2 (k29+1) x4.2.1 x4.2.2=some o2:=h;rw[M_pc_decide_L1]at h;refine aSR ?_;intro _;refine dr_XDCov ?_;refine aSq (aCd ?_);intro _;refine spl h (fun c6 h=>?_) (fun c6 h=>?_)
     ·refine aSk (aSq (aBk (aSR ?_)));intro _;obtain⟨y30,w7,q8,h⟩:=ix_ok h;refine Exists.intro (cL_cF y30) (And.intro (map_at' w7) ?_);intro _;refine pr_XDCov ?_;refine dr_XDCov ?_;refine aSq (aSR ?_);intro _;obtain⟨z31,u9,h⟩:=ob1_ok h;refine cl_XDCov rfl (A_p_contains a1 y30 u9) ?_;intro _;refine dr_XDCov ?_;refine aCd ?_;intro _;refine spl h (fun c10 h=>?_) (fun c10 h=>?_)
      ·refine aSR ?_;intro _;refine dr_XDCov ?_;refine aRt ?_;have j11:=sI_ h;subst j11;replace h:=(osum_r hK3);intro _;obtain⟨rfl,rfl⟩:=inj2 h;all_goals (refine Exists.intro [] (And.intro rfl (And.intro ?_ ?_)));all_goals (exact zg_XDCov)
      ·refine aSk (aSR ?_);intro _;obtain⟨z32,u12,h⟩:=ob1_ok h;refine cl_XDCov rfl (A_p_conflict a1 y30 u12) ?_;intro _;refine dr_XDCov ?_;refine aCd ?_;intro _;refine spl h (fun c13 h=>?_) (fun c13 h=>?_)
       ·refine aRg ?_;intro _;obtain⟨q14,h⟩:=grd_ok h;refine pl_XDCov ?_;refine pl_XDCov ?_;refine And.intro (by first|with_reducible assumption|(show(x4.2.2.length+1)*24≤140737488355328;with_reducible assumption)|omega|(simp;omega)) ?_;refine pe_XDCov ?_;refine dr_XDCov ?_;refine aRg ?_;intro _;refine dr_XDCov ?_;refine⟨(k29,(IntKind.i64.wrap (x4.2.1+1)),(x4.2.2++[y30])),h,ltS m5,?_⟩;exact ca_XDCov
       ·refine aSk (aRg ?_);intro _;refine dr_XDCov ?_;refine⟨(k29,(IntKind.i64.wrap (x4.2.1+1)),x4.2.2),h,ltS m5,?_⟩;exact ca_XDCov
     ·refine aEx ?_;refine⟨x4.2.2,(sI_ h).symm,?_⟩;exact ca_XDCov
   ·rintro v15 ho;have ho:=ho.symm;subst ho;intro _;replace h:=(osum_l hK3);refine aSR ?_;intro _;refine dr_XDCov ?_;obtain⟨o15,h,hK16⟩:=ob1_ok h;refine awp_cut (α:=Int) (fun v116=>mkG 112 115 [(0,.ptr 112 0 0 0),(1,.sl 2 (a1.map cF)),(7,.own 51 0 0 v15.length),(10,.c (.int .i64 v116))] [(51,⟨23,1,false,v15.map cL_cF⟩),(112,⟨164,4,true,[[.sl 1 (a0.vars.map cI),.c (.int .i64 (IntKind.i64.wrap (a0.used+1))),.c (.int .i64 a0.steps),.c (.bool a0.full)]]⟩)]) (fun v=>o15=v) ?_ ?_
    ·refine aSR ?_;intro _;refine dr_XDCov ?_;refine aBk ?_;refine awp_loop (α:=Nat×Int×Int) (fun x=>mkG 112 115 [(0,.ptr 112 0 0 0),(1,.sl 2 (a1.map cF)),(7,.own 51 0 0 v15.length),(10,.c (.int .i64 x.2.1)),(58,.own 51 0 0 v15.length),(59,.c (.int .i64 ((v15.length:Nat):Int))),(60,.c (.int .i64 x.2.2))] [(51,⟨23,1,false,v15.map cL_cF⟩),(112,⟨164,4,true,[[.sl 1 (a0.vars.map cI),.c (.int .i64 (IntKind.i64.wrap (a0.used+1))),.c (.int .i64 a0.steps),.c (.bool a0.full)]]⟩)]) (fun x=>M_pc_decide_L3 a1 v15 x.1 x.2.1 x.2.2=some o15) (fun x=>x.1) ((((v15.length:Nat):Int)).toNat+1,((a0.vars.map cI).length:Int),0) h ?_ ?_
     ·exact ca_XDCov
     ·intro x17 h;intro _;obtain⟨k174,m18,h⟩:=succ_of (f:=fun n=>M_pc_decide_L3 a1 v15 n x17.2.1 x17.2.2) rfl h;replace h:M_pc_decide_L3 a1 v15 (k174+1) x17.2.1 x17.2.2=some o15:=h;rw[M_pc_decide_L3]at h;refine aSR ?_;intro _;refine dr_XDCov ?_;refine aSq (aCd ?_);intro _;refine spl h (fun c19 h=>?_) (fun c19 h=>?_)
      ·refine aSk ?_;obtain⟨o20,h,hK21⟩:=ob1_ok h;refine awp_cut (α:=Int) (fun v187=>mkG 112 115 [(0,.ptr 112 0 0 0),(1,.sl 2 (a1.map cF)),(7,.own 51 0 0 v15.length),(10,.c (.int .i64 v187)),(58,.own 51 0 0 v15.length),(59,.c (.int .i64 ((v15.length:Nat):Int))),(60,.c (.int .i64 x17.2.2))] [(51,⟨23,1,false,v15.map cL_cF⟩),(112,⟨164,4,true,[[.sl 1 (a0.vars.map cI),.c (.int .i64 (IntKind.i64.wrap (a0.used+1))),.c (.int .i64 a0.steps),.c (.bool a0.full)]]⟩)]) (fun v=>o20=v) ?_ ?_
       ·refine aBk (aSR ?_);intro _;obtain⟨y189,w22,h⟩:=ixn_ok h;refine Exists.intro (cL_cF y189) (And.intro (by first|exact map_at' w22|(have w:=map_at' (f:=cL_cF) w22;simpa [cL_cF,Value.cells] using w)) ?_);intro _;obtain⟨q23,h⟩:=grd_ok h;obtain⟨q24,h⟩:=grd_ok h;refine pr_XDCov ?_;refine pr_XDCov ?_;refine dr_XDCov ?_;refine aSR ?_;intro _;refine dr_XDCov ?_;refine aBk ?_;refine awp_loop (α:=Nat×Int×Int) (fun x=>mkG 112 115 [(0,.ptr 112 0 0 0),(1,.sl 2 (a1.map cF)),(7,.own 51 0 0 v15.length),(10,.c (.int .i64 x.2.1)),(58,.own 51 0 0 v15.length),(59,.c (.int .i64 ((v15.length:Nat):Int))),(60,.c (.int .i64 x17.2.2)),(64,.sl 2 (y189.map cF)),(65,.c (.int .i64 ((y189.map cF).length:Int))),(66,.c (.int .i64 x.2.2))] [(51,⟨23,1,false,v15.map cL_cF⟩),(112,⟨164,4,true,[[.sl 1 (a0.vars.map cI),.c (.int .i64 (IntKind.i64.wrap (a0.used+1))),.c (.int .i64 a0.steps),.c (.bool a0.full)]]⟩)]) (fun x=>M_pc_decide_L2 a1 y189 x.1 x.2.1 x.2.2=some o20) (fun x=>x.1) ((((y189.map cF).length:Int)).toNat+1,x17.2.1,0) h ?_ ?_
        ·exact ca_XDCov
        ·intro x25 h;intro _;obtain⟨k198,m26,h⟩:=succ_of (f:=fun n=>M_pc_decide_L2 a1 y189 n x25.2.1 x25.2.2) rfl h;replace h:M_pc_decide_L2 a1 y189 (k198+1) x25.2.1 x25.2.2=some o20:=h;rw[M_pc_decide_L2]at h;refine aSR ?_;intro _;refine dr_XDCov ?_;refine aSq (aCd ?_);intro _;refine spl h (fun c27 h=>?_) (fun c27 h=>?_)
         ·refine aSk (aSq (aBk (aSR ?_)));intro _;obtain⟨y199,w28,q29,h⟩:=ix_ok h;refine Exists.intro (cF y199) (And.intro (map_at' w28) ?_);intro _;refine pr_XDCov ?_;refine dr_XDCov ?_;refine aSR ?_;intro _;refine spl h (fun c30 h=>?_) (fun c30 h=>?_)
          ·intro _;obtain⟨z200,u31,h⟩:=ob1_ok h;refine cl_XDCov rfl (A_p_find a1 y199.1 u31) ?_;intro _;refine dr_XDCov ?_;refine aCd ?_;intro _;refine spl h (fun c32 h=>?_) (fun c32 h=>?_)
           ·refine aRg ?_;intro _;refine dr_XDCov ?_;refine aRg ?_;intro _;refine dr_XDCov ?_;refine⟨(k198,y199.1,(IntKind.i64.wrap (x25.2.2+1))),h,ltS m26,?_⟩;exact ca_XDCov
           ·refine aSk (aRg ?_);intro _;refine dr_XDCov ?_;refine⟨(k198,x25.2.1,(IntKind.i64.wrap (x25.2.2+1))),h,ltS m26,?_⟩;exact ca_XDCov
          ·intro _;refine dr_XDCov ?_;refine aCd ?_;intro _;refine litF (aSk (aRg ?_));intro _;refine dr_XDCov ?_;refine⟨(k198,x25.2.1,(IntKind.i64.wrap (x25.2.2+1))),h,ltS m26,?_⟩;exact ca_XDCov
         ·refine aEx ?_;refine⟨x25.2.1,(sI_ h).symm,?_⟩;exact ca_XDCov
       ·rintro v187 ho;have ho:=ho.symm;subst ho;intro _;replace h:=hK21;refine aRg ?_;intro _;refine dr_XDCov ?_;refine⟨(k174,v187,(IntKind.i64.wrap (x17.2.2+1))),h,ltS m18,?_⟩;exact ca_XDCov
      ·refine aEx ?_;refine⟨x17.2.1,(sI_ h).symm,?_⟩;exact ca_XDCov
    ·rintro v116 ho;have ho:=ho.symm;subst ho;intro _;replace h:=hK16;refine aSq (aSR ?_);intro _;refine dr_XDCov ?_;refine aCd ?_;intro _;refine spl h (fun c33 h=>?_) (fun c33 h=>?_)
     ·refine aSR ?_;intro _;refine dr_XDCov ?_;refine aRt ?_;intro _;obtain⟨rfl,rfl⟩:=inj2 h;all_goals (refine Exists.intro [] (And.intro rfl (And.intro ?_ ?_)));all_goals (exact zg_XDCov)
     ·refine aSk (aSq (aSR ?_));intro _;obtain⟨y201,w34,q35,h⟩:=ix_ok h;refine Exists.intro (cI y201) (And.intro (map_at' w34) ?_);intro _;refine pr_XDCov ?_;refine dr_XDCov ?_;refine aBk ?_;obtain⟨q36,h⟩:=grd_ok h;refine awp_loop (α:=Nat×(List (List Fact))×Int×(List Int)×Int×Int×Bool) (fun x=>mkG 112 115 [(0,.ptr 112 0 0 0),(1,.sl 2 (a1.map cF)),(7,.sl 1 (x.2.1.map cL_cF)),(10,.c (.int .i64 v116)),(98,.c (.int .i64 y201)),(99,.c (.int .i64 x.2.2.1))] [(112,⟨164,4,true,[[.sl 1 (x.2.2.2.1.map cI),.c (.int .i64 x.2.2.2.2.1),.c (.int .i64 x.2.2.2.2.2.1),.c (.bool x.2.2.2.2.2.2)]]⟩)]) (fun x=>M_pc_decide_L4 a1 (M_pc_decide g) v116 y201 x.1 x.2.1 x.2.2.1 x.2.2.2.1 x.2.2.2.2.1 x.2.2.2.2.2.1 x.2.2.2.2.2.2=some (r1,r2)) (fun x=>x.1) ((y201).toNat+1,v15,0,a0.vars,(IntKind.i64.wrap (a0.used+1)),a0.steps,a0.full) h ?_ ?_
      ·exact ca_XDCov
      ·intro x37 h;intro _;obtain⟨k221,m38,h⟩:=succ_of (f:=fun n=>M_pc_decide_L4 a1 (M_pc_decide g) v116 y201 n x37.2.1 x37.2.2.1 x37.2.2.2.1 x37.2.2.2.2.1 x37.2.2.2.2.2.1 x37.2.2.2.2.2.2) rfl h;replace h:M_pc_decide_L4 a1 (M_pc_decide g) v116 y201 (k221+1) x37.2.1 x37.2.2.1 x37.2.2.2.1 x37.2.2.2.2.1 x37.2.2.2.2.2.1 x37.2.2.2.2.2.2=some (r1,r2):=h;rw[M_pc_decide_L4]at h;refine aSR ?_;intro _;refine dr_XDCov ?_;refine aSq (aCd ?_);intro _;refine spl h (fun c39 h=>?_) (fun c39 h=>?_)
       ·refine aSk (aSq (aBk (aSR ?_)));intro _;refine dr_XDCov ?_;refine aSR ?_;intro _;obtain⟨z222,u40,h⟩:=ob1_ok h;refine clg_XDCov [(0,107)] [] [] [(107,⟨2,some ⟨47,2,false,z222.map cF⟩⟩)] (.own 107 2 0 z222.length) rfl rfl (A_with a1 (v116,x37.2.2.1) u40) ?_;intro _;obtain⟨q41,h⟩:=grd_ok h;obtain⟨z223,c224,u42,h⟩:=ob2_ok h;refine clg_XDCov [(112,112)] [107] [(107,⟨3,none⟩)] [(112,⟨0,some ⟨164,4,true,[[.sl 1 (c224.vars.map cI),.c (.int .i64 c224.used),.c (.int .i64 c224.steps),.c (.bool c224.full)]]⟩⟩)] (.c (.bool z223)) rfl rfl (ih ({ vars:=x37.2.2.2.1,used:=x37.2.2.2.2.1,steps:=x37.2.2.2.2.2.1,full:=x37.2.2.2.2.2.2:GCover }) z222 x37.2.1 u42) ?_;intro _;refine dr_XDCov ?_;refine aCd ?_;intro _;refine spl h (fun c43 h=>?_) (fun c43 h=>?_)
        ·refine aSR ?_;intro _;refine dr_XDCov ?_;refine aRt ?_;intro _;obtain⟨rfl,rfl⟩:=inj2 h;all_goals (refine Exists.intro [] (And.intro rfl (And.intro ?_ ?_)));all_goals (exact zg_XDCov)
        ·refine aSk (aRg ?_);intro _;refine dr_XDCov ?_;refine⟨(k221,x37.2.1,(IntKind.i64.wrap (x37.2.2.1+1)),c224.vars,c224.used,c224.steps,c224.full),h,ltS m38,?_⟩;exact ca_XDCov
       ·refine aEx (aSR ?_);intro _;refine dr_XDCov ?_;refine aRt ?_;intro _;obtain⟨rfl,rfl⟩:=inj2 h;all_goals (refine Exists.intro [] (And.intro rfl (And.intro ?_ ?_)));all_goals (exact zg_XDCov)
def M_p_Covered (g:Nat)(a0:List Int)(a1:List Fact)(a2:List (List Fact))(a3:Int):Option (Bool×Int×Er):=ob1 (ob1 (M_task_Facts a0 a1) (fun z7=>sel (!z7) (some (.inr (false,0,(Er.no 2)))) (ob1 (M_s_ContainsFunc_Fact a2 (M_p_Covered_1 a0)) (fun z8=>sel z8 (some (.inr (false,0,(Er.no 2)))) (some (.inl ()))))):Option (Unit⊕(Bool×Int×Er))) (osum (fun _=>ob2 (M_pc_decide g ({ vars:=a0,used:=0,steps:=a3,full:=false:GCover }) a1 a2) (fun z9 c10=>sel c10.full (some (false,0,(Er.no 10))) (some (z9,c10.used,Er.nil)))) (fun(r3,r4,r5)=>some (r3,r4,r5)))
theorem A_p_Covered (g:Nat)(a0:List Int)(a1:List Fact)(a2:List (List Fact))(a3:Int){r1:Bool}{r2:Int}{r3:Er}(h:M_p_Covered g a0 a1 a2 a3=some (r1,r2,r3)):ACall cx 73 [.sl 1 (a0.map cI),.sl 2 (a1.map cF),.sl 1 (a2.map cL_cF),.c (.int .i64 a3)] (.tup [.c (.bool r1),.c (.int .i64 r2),eA r3]):=by
 refine aOf Tryz.func73 rfl (by decide) rfl (bT1 rfl) ?_;intro _;unfold M_p_Covered at h;refine aSR ?_;intro _;refine dr_XDCov ?_;obtain⟨o1,h,hK2⟩:=ob1_ok h;refine awp_cut (α:=Unit) (fun _=>mkS 41 [(1,.sl 2 (a1.map cF)),(2,.sl 1 (a2.map cL_cF)),(3,.c (.int .i64 a3)),(4,.ptr 4 0 0 0)] [(4,⟨22,1,true,[[.sl 1 (a0.map cI)]]⟩)]) (fun v=>o1=(.inl v)) ?_ ?_
 ·refine aSR ?_;intro _;obtain⟨z7,u3,h⟩:=ob1_ok h;refine cl_XDCov rfl (A_task_Facts a0 a1 u3) ?_;intro _;refine spf h (fun c4 h=>?_) (fun c4 h=>?_)
  ·intro _;refine⟨_,lf_func rfl (bT1 rfl) rfl rfl,?_⟩;intro _;obtain⟨z8,u5,h⟩:=ob1_ok h;refine clb_XDCov [4] rfl rfl (A_s_ContainsFunc_Fact a2 (M_p_Covered_1 a0) (.clo (.func 96) [] [.pim [.sl 1 (a0.map cI)] 0]) (Fr.clo FrC_nil FrE.h) ⟨_,_,_,rfl⟩ (fun x0 y0 hx=>⟨96,[],_,rfl,A_p_Covered_1 a0 x0 hx⟩) u5) ?_;intro _;refine dr_XDCov ?_;refine aCd ?_;intro _;refine spl h (fun c6 h=>?_) (fun c6 h=>?_)
   ·refine aSR ?_;intro _;refine dr_XDCov ?_;refine aRt ?_;have j7:=sI_ h;subst j7;replace h:=(osum_r hK2);intro _;obtain⟨rfl,rfl,rfl⟩:=inj3 h;exact ca_XDCov
   ·refine aSk ?_;refine⟨(),(sI_ h).symm,?_⟩;exact ca_XDCov
  ·intro _;refine dr_XDCov ?_;refine aCd ?_;intro _;refine litT (aSR ?_);intro _;refine dr_XDCov ?_;refine aRt ?_;have j8:=sI_ h;subst j8;replace h:=(osum_r hK2);intro _;obtain⟨rfl,rfl,rfl⟩:=inj3 h;exact ca_XDCov
 ·rintro _ ho;have ho:=ho.symm;subst ho;intro _;replace h:=(osum_l hK2);refine aSR ?_;intro _;refine dr_XDCov ?_;refine aSR ?_;intro _;obtain⟨z9,c10,u9,h⟩:=ob2_ok h;refine clg_XDCov [(112,26)] [] [] [(26,⟨1,some ⟨164,4,true,[[.sl 1 (c10.vars.map cI),.c (.int .i64 c10.used),.c (.int .i64 c10.steps),.c (.bool c10.full)]]⟩⟩)] (.c (.bool z9)) rfl rfl (A_pc_decide g ({ vars:=a0,used:=0,steps:=a3,full:=false:GCover }) a1 a2 u9) ?_;intro _;refine dr_XDCov ?_;refine aSq (aSR ?_);intro _;refine dr_XDCov ?_;refine aCd ?_;intro _;refine spl h (fun c10 h=>?_) (fun c10 h=>?_)
  ·refine aSR ?_;intro _;refine dr_XDCov ?_;refine aRt ?_;intro _;obtain⟨rfl,rfl,rfl⟩:=inj3 h;exact ca_XDCov
  ·refine aSk (aSR ?_);intro _;refine dr_XDCov ?_;refine aRt ?_;intro _;obtain⟨rfl,rfl,rfl⟩:=inj3 h;exact ca_XDCov
def M_p_conflict_L1_B (a0:List Fact)(_:List Fact)(_y8:Fact)(_:Int):Unit→(Unit→Option (Bool))→Option (Bool):=fun _ rc=>ixv _y8 (fun y8=>ob1 (M_p_find a0 y8.1) (fun z9=>sel (decide (z9≥0)) (sel (z9 != y8.2) (some true) (rc ())) (rc ())))
def M_p_conflict_L1_E (_:List Fact)(_:List Fact):Unit→Option (Bool):=fun _=>some false
theorem M_p_conflict_L1_eq (a0:List Fact)(a1:List Fact)  (hl:a1.length<9223372036854775807):M_p_conflict_L1 a0 a1 (((a1.map cF).length:Int).toNat+1) 0=Rg (M_p_conflict_L1_B a0 a1) (M_p_conflict_L1_E a0 a1) a1 0 ():=rg_e1 (L:=fun k i _=>M_p_conflict_L1 a0 a1 k i) hl (fun _ _ _=>rfl) ()
def M_pc_decide_L1_B (a0:GCover)(a1:List Fact)(_:List (List Fact))(_y30:List Fact)(_:Int):((List (List Fact)))→(((List (List Fact)))→Option ((List (List Fact))⊕(Bool×GCover)))→Option ((List (List Fact))⊕(Bool×GCover)):=fun v28 rc=>ixv _y30 (fun y30=>ob1 (M_p_contains a1 y30) (fun z31=>sel z31 (some (.inr (true,{ vars:=a0.vars,used:=(IntKind.i64.wrap (a0.used+1)),steps:=a0.steps,full:=a0.full:GCover }))) (ob1 (M_p_conflict a1 y30) (fun z32=>sel (!z32) (grd ((v28.length+1)*24≤140737488355328) (rc ((v28++[y30])))) (rc (v28))))))
def M_pc_decide_L1_E (_:GCover)(_:List Fact)(_:List (List Fact)):((List (List Fact)))→Option ((List (List Fact))⊕(Bool×GCover)):=fun v28=>some (.inl v28)
theorem M_pc_decide_L1_eq (a0:GCover)(a1:List Fact)(a2:List (List Fact))(v28:List (List Fact))(hl:a2.length<9223372036854775807):M_pc_decide_L1 a0 a1 a2 (((a2.map cL_cF).length:Int).toNat+1) 0 v28=Rg (M_pc_decide_L1_B a0 a1 a2) (M_pc_decide_L1_E a0 a1 a2) a2 0 v28:=rg_e1 (L:=fun k i v28=>M_pc_decide_L1 a0 a1 a2 k i v28) hl (fun _ _ _=>rfl) v28
def M_pc_decide_L2_B (a1:List Fact)(_:List Fact)(_y199:Fact)(_:Int):((Int))→(((Int))→Option (Int))→Option (Int):=fun v196 rc=>ixv _y199 (fun y199=>sel (decide (y199.1<v196)) (ob1 (M_p_find a1 y199.1) (fun z200=>sel (decide (z200<0)) (rc (y199.1)) (rc (v196)))) (rc (v196)))
def M_pc_decide_L2_E (_:List Fact)(_:List Fact):((Int))→Option (Int):=fun v196=>some v196
theorem M_pc_decide_L2_eq (a1:List Fact)(y189:List Fact)(v196:Int)(hl:y189.length<9223372036854775807):M_pc_decide_L2 a1 y189 (((y189.map cF).length:Int).toNat+1) v196 0=Rg (M_pc_decide_L2_B a1 y189) (M_pc_decide_L2_E a1 y189) y189 0 v196:=rg_e1 (L:=fun k i v196=>M_pc_decide_L2 a1 y189 k v196 i) hl (fun _ _ _=>rfl) v196
def M_pc_decide_L3_B (a1:List Fact)(v15:List (List Fact))(v173:Int):((Int))→(((Int))→Option (Int))→Option (Int):=fun v172 rc=>ob1 (ixn v15 ((v173).toNat) (fun y189=>grd (0≤v173) (grd (v173<((v15.length:Nat):Int)) (M_pc_decide_L2 a1 y189 ((((y189.map cF).length:Int)).toNat+1) v172 0))):Option (Int)) (fun v187=>rc (v187))
def M_pc_decide_L3_E (_:List Fact)(_:List (List Fact)):((Int))→Option (Int):=fun v172=>some v172
theorem M_pc_decide_L3_eq (a1:List Fact)(v15:List (List Fact))(v172:Int){m:Nat}(hm:((v15.length:Nat):Int)=(m:Int))(hl:m<9223372036854775807):M_pc_decide_L3 a1 v15 ((((v15.length:Nat):Int)).toNat+1) v172 0=Rn (M_pc_decide_L3_B a1 v15) (M_pc_decide_L3_E a1 v15) m 0 v172:=rn_e (L:=fun k i v172=>M_pc_decide_L3 a1 v15 k v172 i) hm hl (fun _ _ _=>rfl) v172
def M_pc_decide_L4_B (a1:List Fact)(rec:GCover→(List Fact)→(List (List Fact))→Option (Bool×GCover))(v116:Int)(_:Int)(v216:Int):((List (List Fact))×(List Int)×(Int)×(Int)×(Bool))→(((List (List Fact))×(List Int)×(Int)×(Int)×(Bool))→Option (Bool×GCover))→Option (Bool×GCover):=fun(v215,v217,v218,v219,v220) rc=>ob1 (M_with a1 (v116,v216)) (fun z222=>grd (z222.length≤140737488355328) (ob2 (rec ({ vars:=v217,used:=v218,steps:=v219,full:=v220:GCover }) z222 v215) (fun z223 c224=>sel (!z223) (some (false,c224)) (rc (v215,c224.vars,c224.used,c224.steps,c224.full)))))
def M_pc_decide_L4_E (_:List Fact)(_:GCover→(List Fact)→(List (List Fact))→Option (Bool×GCover))(_:Int)(_:Int):((List (List Fact))×(List Int)×(Int)×(Int)×(Bool))→Option (Bool×GCover):=fun(_,v217,v218,v219,v220)=>some (true,{ vars:=v217,used:=v218,steps:=v219,full:=v220:GCover })
theorem M_pc_decide_L4_eq (a1:List Fact)(rec:GCover→(List Fact)→(List (List Fact))→Option (Bool×GCover))(v116:Int)(y201:Int)(v215:List (List Fact))(v217:List Int)(v218:Int)(v219:Int)(v220:Bool){m:Nat}(hm:y201=(m:Int))(hl:m<9223372036854775807):M_pc_decide_L4 a1 rec v116 y201 ((y201).toNat+1) v215 0 v217 v218 v219 v220=Rn (M_pc_decide_L4_B a1 rec v116 y201) (M_pc_decide_L4_E a1 rec v116 y201) m 0 (v215,v217,v218,v219,v220):=rn_e (L:=fun k i p=>match p with|(v215,v217,v218,v219,v220)=>M_pc_decide_L4 a1 rec v116 y201 k v215 i v217 v218 v219 v220) hm hl (fun _ _ ⟨_,_,_,_,_⟩=>rfl) (v215,v217,v218,v219,v220)
end Go.Proofs.YtinknhophadbkaaGreatDoor.Am
