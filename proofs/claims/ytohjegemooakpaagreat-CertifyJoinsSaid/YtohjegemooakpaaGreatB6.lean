/- stratagemlaw32.CertifyJoins returns true for every input. No condition beyond the row's own. -/
import Derived.Test.YtohjegemooakpaaGreatB5
import Derived.Test.YtohjegemooakpaaGreatB4
import Derived.Test.YtohjegemooakpaaGreatB2
import Derived.KernelRfl
import Derived.Test.YtohjegemooakpaaGreatB1
import Derived.Deep.Slices
import Derived.Deep.Fields
import Derived.ChangeSame
import Derived.SizedLaws
import Derived.Lib.SmallJoins
import Derived.Below
import Derived.OpenShut
import Derived.Carry
import Derived.Test.YtohjegemooakpaaGreatRows
import Derived.Deep.DeepHandedRow
import Derived.Lib.LaidTab
/- Range loops of the models as recursions. -/
namespace Go.Proofs.YtohjegemooakpaaGreat.Am
def M_ce_formed_L1_B (a0 : List Fact) (_y7 : Fact) (v5 : Int) : Unit → (Unit → Option (Bool)) → Option (Bool) := fun _ rc => ixv _y7 (fun y7 =>
       sel (decide (y7.1 < 0))
        (some false)
        (sel (decide (y7.1 ≥ 64))
          (some false)
          (sel (decide (y7.2 < 0))
            (some false)
            (sel (decide (y7.2 ≥ 64))
              (some false)
              (sel (decide (v5 > 0))
                (ix a0 (IntKind.i64.wrap (v5 - 1)) (fun y8 =>
                  sel (decide (y8.1 ≥ y7.1))
                   (some false)
                   (rc ())))
                (rc ()))))))
def M_ce_formed_L1_E (_ : List Fact) : Unit → Option (Bool) := fun _ => some true
theorem M_ce_formed_L1_eq (a0 : List Fact)  (hl : a0.length < 9223372036854775807) : M_ce_formed_L1 a0 (((a0.map cF).length : Int).toNat + 1) 0 = Rg (M_ce_formed_L1_B a0) (M_ce_formed_L1_E a0) a0 0 () := rg_e1 (L := fun k i _ => M_ce_formed_L1 a0 k i) hl (fun _ _ _ => rfl) ()
def M_ce_Check_L1_B (_ : GCertificate) (_y21 : Nogood) (_ : Int) : Unit → (Unit → Option (Unit ⊕ Er)) → Option (Unit ⊕ Er) := fun _ rc => ixv _y21 (fun y21 =>
       ob1 (M_ce_formed y21.1) (fun z22 =>
        sel (!z22)
         (some (.inr (Er.no 2)))
         (rc ())))
def M_ce_Check_L1_E (_ : GCertificate) : Unit → Option (Unit ⊕ Er) := fun _ => some (.inl ())
theorem M_ce_Check_L1_eq (a0 : GCertificate)  (hl : a0.Nogoods.length < 9223372036854775807) : M_ce_Check_L1 a0 (((a0.Nogoods.map cN).length : Int).toNat + 1) 0 = Rg (M_ce_Check_L1_B a0) (M_ce_Check_L1_E a0) a0.Nogoods 0 () := rg_e1 (L := fun k i _ => M_ce_Check_L1 a0 k i) hl (fun _ _ _ => rfl) ()
def M_ce_Check_L2_B (a0 : GCertificate) (_y28 : Nogood) (_ : Int) : Unit → (Unit → Option (Er)) → Option (Er) := fun _ rc => ixv _y28 (fun y28 =>
       sel (decide (y28.2 < 0))
        (some (Er.no 1))
        (sel (decide (a0.Bound ≥ 0))
          (sel (decide (y28.2 ≥ a0.Bound))
            (some (Er.no 1))
            (sel (decide (a0.Bound < 0))
              (sel (y28.2 != 0)
                (some (Er.no 1))
                (rc ()))
              (rc ())))
          (sel (decide (a0.Bound < 0))
            (sel (y28.2 != 0)
              (some (Er.no 1))
              (rc ()))
            (rc ()))))
def M_ce_Check_L2_E (_ : GCertificate) : Unit → Option (Er) := fun _ => some Er.nil
theorem M_ce_Check_L2_eq (a0 : GCertificate)  (hl : a0.Nogoods.length < 9223372036854775807) : M_ce_Check_L2 a0 (((a0.Nogoods.map cN).length : Int).toNat + 1) 0 = Rg (M_ce_Check_L2_B a0) (M_ce_Check_L2_E a0) a0.Nogoods 0 () := rg_e1 (L := fun k i _ => M_ce_Check_L2 a0 k i) hl (fun _ _ _ => rfl) ()
def M_ce_Proper_L1_B (a0 : List Int) (_ : GCertificate) (_y10 : Nogood) (_ : Int) : Unit → (Unit → Option (Er)) → Option (Er) := fun _ rc => ixv _y10 (fun y10 =>
       ob1 (M_task_Facts a0 y10.1) (fun z11 =>
        sel (!z11)
         (some (Er.no 2))
         (rc ())))
def M_ce_Proper_L1_E (_ : List Int) (_ : GCertificate) : Unit → Option (Er) := fun _ => some Er.nil
theorem M_ce_Proper_L1_eq (a0 : List Int) (a1 : GCertificate)  (hl : a1.Nogoods.length < 9223372036854775807) : M_ce_Proper_L1 a0 a1 (((a1.Nogoods.map cN).length : Int).toNat + 1) 0 = Rg (M_ce_Proper_L1_B a0 a1) (M_ce_Proper_L1_E a0 a1) a1.Nogoods 0 () := rg_e1 (L := fun k i _ => M_ce_Proper_L1 a0 a1 k i) hl (fun _ _ _ => rfl) ()
def M_ck_counting_L1_B (_ : GChecker) (a1 : Int) (_y8 : Nogood) (_ : Int) : ((List (List Fact))) → (((List (List Fact))) → Option (List (List Fact))) → Option (List (List Fact)) := fun v6 rc => ixv _y8 (fun y8 =>
       sel (decide (y8.2 ≤ a1))
        (grd ((v6.length + 1) * 24 ≤ 140737488355328) (rc ((v6 ++ [y8.1]))))
        (rc (v6)))
def M_ck_counting_L1_E (_ : GChecker) (_ : Int) : ((List (List Fact))) → Option (List (List Fact)) := fun v6 => grd (v6.length ≤ 140737488355328) (some v6)
theorem M_ck_counting_L1_eq (a0 : GChecker) (a1 : Int) (v6 : List (List Fact)) (hl : a0.c.Nogoods.length < 9223372036854775807) : M_ck_counting_L1 a0 a1 (((a0.c.Nogoods.map cN).length : Int).toNat + 1) 0 v6 = Rg (M_ck_counting_L1_B a0 a1) (M_ck_counting_L1_E a0 a1) a0.c.Nogoods 0 v6 := rg_e1 (L := fun k i v6 => M_ck_counting_L1 a0 a1 k i v6) hl (fun _ _ _ => rfl) v6
def M_ck_step_L1_B (g : Nat) (v2 : Int) (_ : List (List Fact)) (_y37 : List Fact) (_ : Int) : ((List Int) × (List Int) × (List Fact) × (List GOp) × (Int) × (List Nogood) × (Int)) → (((List Int) × (List Int) × (List Fact) × (List GOp) × (Int) × (List Nogood) × (Int)) → Option (Er × GChecker)) → Option (Er × GChecker) := fun (v29, v30, v31, v32, v33, v34, v35) rc => ixv _y37 (fun y37 =>
       ob3 (M_ck_covered g ({ t := { Vars := v29, Init := v30, Goal := v31, Ops := v32 : GTask }, c := { Bound := v33, Nogoods := v34 : GCertificate }, steps := v35 : GChecker }) y37 v2) (fun z38 z39 c40 =>
        erM z39
         (sel (!z38)
           (some ((Er.no 19), c40))
           (rc (c40.t.Vars, c40.t.Init, c40.t.Goal, c40.t.Ops, c40.c.Bound, c40.c.Nogoods, c40.steps)))
         (fun e41 => some ((Er.no e41), c40))))
def M_ck_step_L1_E (_ : Nat) (_ : Int) (_ : List (List Fact)) : ((List Int) × (List Int) × (List Fact) × (List GOp) × (Int) × (List Nogood) × (Int)) → Option (Er × GChecker) := fun (v29, v30, v31, v32, v33, v34, v35) => some (Er.nil, { t := { Vars := v29, Init := v30, Goal := v31, Ops := v32 : GTask }, c := { Bound := v33, Nogoods := v34 : GCertificate }, steps := v35 : GChecker })
theorem M_ck_step_L1_eq (g : Nat) (v2 : Int) (z7 : List (List Fact)) (v29 : List Int) (v30 : List Int) (v31 : List Fact) (v32 : List GOp) (v33 : Int) (v34 : List Nogood) (v35 : Int) (hl : z7.length < 9223372036854775807) : M_ck_step_L1 g v2 z7 (((z7.map cL_cF).length : Int).toNat + 1) 0 v29 v30 v31 v32 v33 v34 v35 = Rg (M_ck_step_L1_B g v2 z7) (M_ck_step_L1_E g v2 z7) z7 0 (v29, v30, v31, v32, v33, v34, v35) := rg_e1 (L := fun k i p => match p with | (v29, v30, v31, v32, v33, v34, v35) => M_ck_step_L1 g v2 z7 k i v29 v30 v31 v32 v33 v34 v35) hl (fun _ _ ⟨_, _, _, _, _, _, _⟩ => rfl) (v29, v30, v31, v32, v33, v34, v35)
def M_checker_Where_L1_B (a0 : GTask) (_ : GCertificate) (_y25 : Nogood) (_ : Int) : Unit → (Unit → Option (Unit ⊕ (Int × Int × Er))) → Option (Unit ⊕ (Int × Int × Er)) := fun _ rc => ixv _y25 (fun y25 =>
       ob1 (M_task_Holds y25.1 a0.Init) (fun z26 =>
        sel z26
         (some (.inr ((-1), (-1), (Er.no 20))))
         (rc ())))
def M_checker_Where_L1_E (_ : GTask) (_ : GCertificate) : Unit → Option (Unit ⊕ (Int × Int × Er)) := fun _ => some (.inl ())
theorem M_checker_Where_L1_eq (a0 : GTask) (a1 : GCertificate)  (hl : a1.Nogoods.length < 9223372036854775807) : M_checker_Where_L1 a0 a1 (((a1.Nogoods.map cN).length : Int).toNat + 1) 0 = Rg (M_checker_Where_L1_B a0 a1) (M_checker_Where_L1_E a0 a1) a1.Nogoods 0 () := rg_e1 (L := fun k i _ => M_checker_Where_L1 a0 a1 k i) hl (fun _ _ _ => rfl) ()
def M_checker_Where_L2_B (_ : GTask) (g : Nat) (v184 : Int) (y231 : Nogood) (v246 : Int) : ((List Int) × (List Int) × (List Fact) × (List GOp) × (Int) × (List Nogood) × (Int)) → (((List Int) × (List Int) × (List Fact) × (List GOp) × (Int) × (List Nogood) × (Int)) → Option (((List Int) × (List Int) × (List Fact) × (List GOp) × Int × (List Nogood) × Int) ⊕ (Int × Int × Er))) → Option (((List Int) × (List Int) × (List Fact) × (List GOp) × Int × (List Nogood) × Int) ⊕ (Int × Int × Er)) := fun (v247, v248, v249, v250, v251, v252, v253) rc => ob2 (M_ck_step g ({ t := { Vars := v247, Init := v248, Goal := v249, Ops := v250 : GTask }, c := { Bound := v251, Nogoods := v252 : GCertificate }, steps := v253 : GChecker }) y231 v246) (fun z255 c256 =>
       erM z255
        (rc (c256.t.Vars, c256.t.Init, c256.t.Goal, c256.t.Ops, c256.c.Bound, c256.c.Nogoods, c256.steps))
        (fun e257 => some (.inr (v184, v246, (Er.no e257)))))
def M_checker_Where_L2_E (_ : GTask) (_ : Nat) (_ : Int) (_ : Nogood) : ((List Int) × (List Int) × (List Fact) × (List GOp) × (Int) × (List Nogood) × (Int)) → Option (((List Int) × (List Int) × (List Fact) × (List GOp) × Int × (List Nogood) × Int) ⊕ (Int × Int × Er)) := fun (v247, v248, v249, v250, v251, v252, v253) => some (.inl (v247, v248, v249, v250, v251, v252, v253))
theorem M_checker_Where_L2_eq (a0 : GTask) (g : Nat) (v184 : Int) (y231 : Nogood) (v247 : List Int) (v248 : List Int) (v249 : List Fact) (v250 : List GOp) (v251 : Int) (v252 : List Nogood) (v253 : Int) {m : Nat} (hm : ((a0.Ops.map cGOp).length : Int) = (m : Int)) (hl : m < 9223372036854775807) : M_checker_Where_L2 a0 g v184 y231 ((((a0.Ops.map cGOp).length : Int)).toNat + 1) 0 v247 v248 v249 v250 v251 v252 v253 = Rn (M_checker_Where_L2_B a0 g v184 y231) (M_checker_Where_L2_E a0 g v184 y231) m 0 (v247, v248, v249, v250, v251, v252, v253) := rn_e (L := fun k i p => match p with | (v247, v248, v249, v250, v251, v252, v253) => M_checker_Where_L2 a0 g v184 y231 k i v247 v248 v249 v250 v251 v252 v253) hm hl (fun _ _ ⟨_, _, _, _, _, _, _⟩ => rfl) (v247, v248, v249, v250, v251, v252, v253)
def M_checker_Where_L3_B (a0 : GTask) (_ : GCertificate) (g : Nat) (_y231 : Nogood) (v184 : Int) : ((List Int) × (List Int) × (List Fact) × (List GOp) × (Int) × (List Nogood) × (Int)) → (((List Int) × (List Int) × (List Fact) × (List GOp) × (Int) × (List Nogood) × (Int)) → Option (Int × Int × Er)) → Option (Int × Int × Er) := fun (v185, v186, v187, v188, v189, v190, v191) rc => ob1 (ixv _y231 (fun y231 =>
        M_checker_Where_L2 a0 g v184 y231 ((((a0.Ops.map cGOp).length : Int)).toNat + 1) 0 v185 v186 v187 v188 v189 v190 v191) : Option (((List Int) × (List Int) × (List Fact) × (List GOp) × Int × (List Nogood) × Int) ⊕ (Int × Int × Er)))
       (osum
       (fun (v220, v221, v222, v223, v224, v225, v226) => rc (v220, v221, v222, v223, v224, v225, v226))
       (fun (r227, r228, r229) => some (r227, r228, r229)))
def M_checker_Where_L3_E (_ : GTask) (_ : GCertificate) (_ : Nat) : ((List Int) × (List Int) × (List Fact) × (List GOp) × (Int) × (List Nogood) × (Int)) → Option (Int × Int × Er) := fun (_, _, _, _, _, _, _) => some ((-1), (-1), Er.nil)
theorem M_checker_Where_L3_eq (a0 : GTask) (a1 : GCertificate) (g : Nat) (v185 : List Int) (v186 : List Int) (v187 : List Fact) (v188 : List GOp) (v189 : Int) (v190 : List Nogood) (v191 : Int) (hl : a1.Nogoods.length < 9223372036854775807) : M_checker_Where_L3 a0 a1 g (((a1.Nogoods.map cN).length : Int).toNat + 1) 0 v185 v186 v187 v188 v189 v190 v191 = Rg (M_checker_Where_L3_B a0 a1 g) (M_checker_Where_L3_E a0 a1 g) a1.Nogoods 0 (v185, v186, v187, v188, v189, v190, v191) := rg_e2 (L := fun k i p => match p with | (v185, v186, v187, v188, v189, v190, v191) => M_checker_Where_L3 a0 a1 g k i v185 v186 v187 v188 v189 v190 v191) hl (fun k n p y hy h1 h2 => by first | (simp only [M_checker_Where_L3, M_checker_Where_L3_B, List.length_map, decide_lt h1, sel, ix_at hy, ixv, h2]; done) | (simp only [List.length_map] at h1 hy; (simp only [M_checker_Where_L3, M_checker_Where_L3_B, List.length_map, decide_lt h1, sel, ix_at hy, ixv, h2]; done))) (fun k p => by simp only [M_checker_Where_L3, M_checker_Where_L3_E, List.length_map, decide_ge, sel]) (v185, v186, v187, v188, v189, v190, v191)
end Go.Proofs.YtohjegemooakpaaGreat.Am
/- Plain: certificate.Check, Proper; task.Holds. -/
namespace Go.Proofs.YtohjegemooakpaaGreat.Am
open Go.RowKit
theorem tholds_eq (l : List Fact) (s : List Int) (hl : Sh l) : M_task_Holds l s = some (holdsF s l) := by
  rw [M_task_Holds, M_task_Holds_L1_eq l s hl.lt, rg_all (p := hold1 s) (c := some false)]
  · rw [M_task_Holds_L1_E, holdsF]; cases l.all (hold1 s) <;> rfl
  · intro x _ i rc
    rw [M_task_Holds_L1_B, ixv, sel_dec, sel_dec, List.length_map, hold1]
    by_cases h0 : x.1 < 0
    · rw [if_pos h0, decide_eq_false (by omega), Bool.false_and, if_neg (by decide)]
    · rw [if_neg h0, decide_eq_true (p := 0 ≤ x.1) (by omega), Bool.true_and]
      by_cases h1 : x.1 < s.length
      · rw [if_neg (by omega), decide_eq_true h1, Bool.true_and, ix_getD (d := 0) (by omega) h1, bne]
        cases s.getD x.1.toNat 0 == x.2 <;> rfl
      · rw [if_pos (by omega), decide_eq_false h1, Bool.false_and, if_neg (by decide)]
def limF (l : List Fact) : Bool := l.all fun x => decide (x.1 < 64 ∧ x.2 < 64)
def frmF (l : List Fact) : Bool := vF (-1) l && limF l
theorem formed_loop (l : List Fact) (hs : Sh l) : ∀ (r : List Fact) (n : Nat) (last : Int), l.drop n = r → n ≤ l.length → -1 ≤ last → (n = 0 → last = -1) → (∀ m, n = m + 1 → ∃ x, l[m]? = some x ∧ x.1 = last) → Rg (M_ce_formed_L1_B l) (M_ce_formed_L1_E l) r n () = some (vF last r && limF r)
  | [], _, _, _, _, _, _, _ => rfl
  | y :: r, n, last, hd, hn, hl, h0, hp => by
    rw [Rg, vF, limF, List.all_cons]
    obtain ⟨hy, hd', hlt⟩ := drop_cons hd
    have hih : 0 ≤ y.1 → Rg (M_ce_formed_L1_B l) (M_ce_formed_L1_E l) r ((n : Int) + 1) () = some (vF y.1 r && limF r) := fun h => formed_loop l hs r (n + 1) y.1 hd' hlt (by omega) (by omega) (fun m hm => ⟨y, by rw [show m = n by omega]; exact hy, rfl⟩)
    simp only [M_ce_formed_L1_B, ixv, sel_dec]
    by_cases h1 : y.1 < 0
    · rw [if_pos h1, decide_eq_false (p := last < y.1 ∧ 0 ≤ y.2) (by omega)]; rfl
    · rw [if_neg h1]
      by_cases h2 : y.1 ≥ 64
      · rw [if_pos h2, decide_eq_false (p := y.1 < 64 ∧ y.2 < 64) (by omega), Bool.false_and, Bool.and_false]
      · rw [if_neg h2]
        by_cases h3 : y.2 < 0
        · rw [if_pos h3, decide_eq_false (p := last < y.1 ∧ 0 ≤ y.2) (by omega)]; rfl
        · rw [if_neg h3]
          by_cases h4 : y.2 ≥ 64
          · rw [if_pos h4, decide_eq_false (p := y.1 < 64 ∧ y.2 < 64) (by omega), Bool.false_and, Bool.and_false]
          · rw [if_neg h4, decide_eq_true (p := y.1 < 64 ∧ y.2 < 64) (by omega), Bool.true_and]
            cases n with
            | zero =>
              have := h0 rfl
              rw [if_neg (by omega), decide_eq_true (p := last < y.1 ∧ 0 ≤ y.2) (by omega)]
              exact hih (by omega)
            | succ m =>
              obtain ⟨x, hx, hxl⟩ := hp m rfl
              rw [if_pos (by omega), w64 (by omega) (by have := hs; unfold Sh at this; omega), show (((m + 1 : Nat) : Int) - 1) = (m : Int) by omega, ix_at hx]
              by_cases h5 : x.1 ≥ y.1
              · rw [if_pos h5, decide_eq_false (p := last < y.1 ∧ 0 ≤ y.2) (by omega)]; rfl
              · rw [if_neg h5, decide_eq_true (p := last < y.1 ∧ 0 ≤ y.2) (by omega)]
                exact hih (by omega)
theorem formed_eq (l : List Fact) (hl : Sh l) : M_ce_formed l = some (frmF l) := by
  rw [M_ce_formed, M_ce_formed_L1_eq _ hl.lt]
  exact formed_loop l hl l 0 (-1) rfl (Nat.zero_le _) (by omega) (fun _ => rfl) (fun m hm => by omega)
/-- sizes of a certificate -/
structure ShC (c : GCertificate) : Prop where
  list : Sh c.Nogoods
  each : ∀ n ∈ c.Nogoods, Sh n.1
def distF (b : Int) (n : Nogood) : Bool := decide (0 ≤ n.2 ∧ (0 ≤ b → n.2 < b) ∧ (b < 0 → n.2 = 0))
def certF (c : GCertificate) : Er :=
  if c.Bound < -1 ∨ c.Bound > 1099511627776 then .no 1
  else if c.Nogoods.length > 4096 then .no 5
  else if (c.Nogoods.all fun n => frmF n.1) = true then (if (c.Nogoods.all (distF c.Bound)) = true then .nil else .no 1)
  else .no 2
theorem ccheck_eq (c : GCertificate) (hc : ShC c) : M_ce_Check c = some (certF c) := by
  rw [M_ce_Check, certF, sel_dec, sel_dec]
  by_cases h1 : c.Bound < -1
  · rw [if_pos h1, if_pos (Or.inl h1)]; rfl
  · rw [if_neg h1]
    by_cases h2 : c.Bound > 1099511627776
    · rw [if_pos h2, if_pos (Or.inr h2)]; rfl
    · rw [if_neg h2, if_neg (by omega), ob1_some, osum_inl, sel_dec, List.length_map]
      by_cases h3 : c.Nogoods.length > 4096
      · rw [if_pos (by omega), if_pos h3]
      · have e1 := M_ce_Check_L1_eq c (by omega)
        have e2 := M_ce_Check_L2_eq c (by omega)
        rw [List.length_map] at e1 e2
        rw [if_neg (by omega), if_neg h3, e1, rg_all (p := fun n : Nogood => frmF n.1) (c := some (.inr (Er.no 2)))]
        · cases ha : c.Nogoods.all fun n => frmF n.1 with
          | false => rw [if_neg (by decide), ob1_some, osum_inr, if_neg (by decide)]
          | true =>
            rw [if_pos rfl, if_pos rfl, M_ce_Check_L1_E, ob1_some, osum_inl, e2, rg_all (p := distF c.Bound) (c := some (Er.no 1)), M_ce_Check_L2_E]
            · split <;> rfl
            · intro n _ i rc
              rw [M_ce_Check_L2_B, ixv, distF]
              simp only [sel_dec]
              by_cases q1 : n.2 < 0
              · rw [if_pos q1, decide_eq_false (by omega)]; rfl
              · rw [if_neg q1]
                by_cases q2 : c.Bound ≥ 0
                · rw [if_pos q2]
                  by_cases q3 : n.2 ≥ c.Bound
                  · rw [if_pos q3, decide_eq_false (by omega)]; rfl
                  · rw [if_neg q3, if_neg (by omega), decide_eq_true (by omega)]; rfl
                · rw [if_neg q2, if_pos (by omega)]
                  by_cases q4 : n.2 = 0
                  · rw [show (n.2 != 0) = false from by simp [q4], sel_ff, decide_eq_true (by omega)]; rfl
                  · rw [show (n.2 != 0) = true from by simp [q4], sel_tt, decide_eq_false (by omega)]; rfl
        · intro n hn i rc
          rw [M_ce_Check_L1_B, ixv, formed_eq n.1 (hc.each n hn), ob1_some]
          cases frmF n.1 <;> rfl
def properF (vars : List Int) (c : GCertificate) : Er :=
  match certF c with
  | .nil => if (c.Nogoods.all fun n => propF vars (-1) n.1) = true then .nil else .no 2
  | .no e => .no e
theorem cproper_eq (vars : List Int) (c : GCertificate) (hc : ShC c) : M_ce_Proper vars c = some (properF vars c) := by
  have e1 := M_ce_Proper_L1_eq vars c hc.list.lt
  rw [M_ce_Proper, ccheck_eq c hc, ob1_some, properF, e1]
  cases certF c with
  | no e => rfl
  | nil =>
    show Rg _ _ _ _ _ = _
    rw [rg_all (p := fun n : Nogood => propF vars (-1) n.1) (c := some (Er.no 2)), M_ce_Proper_L1_E]
    · simp only; split <;> rfl
    · intro n hn i rc
      rw [M_ce_Proper_L1_B, ixv, facts_eq vars n.1 (hc.each n hn), ob1_some]
      cases propF vars (-1) n.1 <;> rfl
/-- a certificate that is proper -/
structure CertP (vars : List Int) (c : GCertificate) : Prop where
  b0 : -1 ≤ c.Bound
  b1 : c.Bound ≤ 1099511627776
  len : c.Nogoods.length ≤ 4096
  prop : ∀ n ∈ c.Nogoods, propF vars (-1) n.1 = true
  frm : ∀ n ∈ c.Nogoods, frmF n.1 = true
  d0 : ∀ n ∈ c.Nogoods, 0 ≤ n.2
  d1 : ∀ n ∈ c.Nogoods, 0 ≤ c.Bound → n.2 < c.Bound
  d2 : ∀ n ∈ c.Nogoods, c.Bound < 0 → n.2 = 0
theorem certF_nil (c : GCertificate) : certF c = .nil ↔ -1 ≤ c.Bound ∧ c.Bound ≤ 1099511627776 ∧ c.Nogoods.length ≤ 4096 ∧ (∀ n ∈ c.Nogoods, frmF n.1 = true) ∧ ∀ n ∈ c.Nogoods, distF c.Bound n = true := by
  unfold certF
  split
  · exact ⟨(nofun), fun h => by omega⟩
  · split
    · exact ⟨(nofun), fun h => by omega⟩
    · split
      · rename_i h
        rw [List.all_eq_true] at h
        split
        · rename_i h2
          rw [List.all_eq_true] at h2
          exact ⟨fun _ => ⟨by omega, by omega, by omega, h, h2⟩, fun _ => rfl⟩
        · rename_i h2
          rw [List.all_eq_true] at h2
          exact ⟨(nofun), fun hh => absurd hh.2.2.2.2 h2⟩
      · rename_i h
        rw [List.all_eq_true] at h
        exact ⟨(nofun), fun hh => absurd hh.2.2.2.1 h⟩
theorem properF_nil (vars : List Int) (c : GCertificate) : properF vars c = .nil ↔ CertP vars c := by
  unfold properF
  constructor
  · intro h
    cases hc : certF c with
    | no e => rw [hc] at h; cases h
    | nil =>
      rw [hc] at h
      simp only at h
      split at h
      · rename_i ha
        rw [List.all_eq_true] at ha
        obtain ⟨h1, h2, h3, h4, h5⟩ := (certF_nil c).1 hc
        have hd : ∀ n ∈ c.Nogoods, 0 ≤ n.2 ∧ (0 ≤ c.Bound → n.2 < c.Bound) ∧ (c.Bound < 0 → n.2 = 0) := fun n hn => of_decide_eq_true (h5 n hn)
        exact ⟨h1, h2, h3, ha, h4, fun n hn => (hd n hn).1, fun n hn => (hd n hn).2.1, fun n hn => (hd n hn).2.2⟩
      · cases h
  · intro h
    rw [(certF_nil c).2 ⟨h.b0, h.b1, h.len, h.frm, fun n hn => decide_eq_true ⟨h.d0 n hn, h.d1 n hn, h.d2 n hn⟩⟩]
    simp only
    rw [if_pos (List.all_eq_true.2 h.prop)]
end Go.Proofs.YtohjegemooakpaaGreat.Am
/- Plain: checker.Where, Verify. -/
namespace Go.Proofs.YtohjegemooakpaaGreat.Am
open Go.RowKit
def countL (ns : List Nogood) (d : Int) : List (List Fact) := (ns.filter fun n => decide (n.2 ≤ d)).map (·.1)
theorem count_loop (x : GChecker) (d : Int) : ∀ (r : List Nogood) (i : Int) (v : List (List Fact)), v.length + r.length ≤ 1000000 →
    Rg (M_ck_counting_L1_B x d) (M_ck_counting_L1_E x d) r i v = some (v ++ countL r d)
  | [], i, v, h => by rw [Rg, M_ck_counting_L1_E, grd_t (by simp at h; omega)]; simp [countL]
  | n :: r, i, v, h => by
    rw [List.length_cons] at h
    rw [Rg, M_ck_counting_L1_B, ixv, sel_dec]
    by_cases hd : n.2 ≤ d
    · rw [if_pos hd, grd_t (by omega), count_loop x d r _ _ (by simp; omega)]
      simp [countL, hd]
    · rw [if_neg hd, count_loop x d r _ _ (by omega)]
      simp [countL, hd]
theorem counting_eq (x : GChecker) (d : Int) (h : x.c.Nogoods.length ≤ 4096) : M_ck_counting x d = some (countL x.c.Nogoods d) := by
  rw [M_ck_counting, M_ck_counting_L1_eq x d [] (by omega), count_loop x d _ _ _ (by simp; omega), List.nil_append]
theorem count_prop {vars : List Int} {c : GCertificate} (h : CertP vars c) (d : Int) : PropL vars (countL c.Nogoods d) := fun x hx => by
  obtain ⟨n, hn, rfl⟩ := List.mem_map.1 hx
  exact h.prop n (List.mem_filter.1 hn).1
theorem count_len {vars : List Int} {c : GCertificate} (h : CertP vars c) (d : Int) : (countL c.Nogoods d).length ≤ 4096 := by
  unfold countL
  rw [List.length_map]
  exact Nat.le_trans (List.length_filter_le _ _) h.len
/-- one question, with the steps that are left -/
def askC (t : GTask) (c : GCertificate) (p : List Fact) (d r : Int) : Bool × Er × Int :=
  if (covA t.Vars p (countL c.Nogoods d)).2 ≤ r then ((covA t.Vars p (countL c.Nogoods d)).1, .nil, r - (covA t.Vars p (countL c.Nogoods d)).2) else (false, .no 10, r)
theorem covA_pos (vars : List Int) (p : List Fact) (l : List (List Fact)) : 1 ≤ (covA vars p l).2 := decA_pos _ _ _ _
theorem askC_r {t : GTask} {c : GCertificate} {p : List Fact} {d r : Int} (h : 0 ≤ r ∧ r ≤ 1048576) : 0 ≤ (askC t c p d r).2.2 ∧ (askC t c p d r).2.2 ≤ 1048576 := by
  have := covA_pos t.Vars p (countL c.Nogoods d)
  unfold askC
  split
  · show 0 ≤ r - _ ∧ r - _ ≤ _; omega
  · exact h
theorem ask_eq {t : GTask} {c : GCertificate} (hd : DomP t.Vars) (hc : CertP t.Vars c) (g : Nat) (hg : 70 ≤ g) (p : List Fact) (hp : propF t.Vars (-1) p = true) (d r : Int) (hr : 0 ≤ r ∧ r ≤ 1048576) :
    M_ck_covered g { t := t, c := c, steps := r } p d = some ((askC t c p d r).1, (askC t c p d r).2.1, { t := t, c := c, steps := (askC t c p d r).2.2 }) := by
  have hl := count_len hc d
  rw [M_ck_covered, counting_eq _ d hc.len, ob1_some]
  show ob3 (M_p_Covered g t.Vars p (countL c.Nogoods d) r) _ = _
  rw [covered_eq hd hp (count_prop hc d) (by omega) r (by omega) g (by omega), covR, askC]
  have hpos := covA_pos t.Vars p (countL c.Nogoods d)
  by_cases h : (covA t.Vars p (countL c.Nogoods d)).2 ≤ r
  · rw [if_pos h, if_pos h, ob3_some]
    show some (_, _, _) = some (_, _, _)
    rw [wrap_eq (by show _ ≤ r - _; omega) (by show r - _ ≤ _; omega)]
  · rw [if_neg h, if_neg h, ob3_some]; rfl
def stepL (t : GTask) (c : GCertificate) (d : Int) : List (List Fact) → Int → Er × Int
  | [], r => (.nil, r)
  | p :: ps, r => match askC t c p d r with
    | (true, .nil, r') => stepL t c d ps r'
    | (false, .nil, r') => (.no 19, r')
    | (_, .no e, r') => (.no e, r')
theorem stepL_r (t : GTask) (c : GCertificate) (d : Int) : ∀ (l : List (List Fact)) (r : Int), 0 ≤ r ∧ r ≤ 1048576 → 0 ≤ (stepL t c d l r).2 ∧ (stepL t c d l r).2 ≤ 1048576
  | [], r, h => h
  | p :: ps, r, h => by
    have ha := askC_r (t := t) (c := c) (p := p) (d := d) h
    rw [stepL]
    rcases hq : askC t c p d r with ⟨b, e, r'⟩
    rw [hq] at ha
    cases e with
    | no e => cases b <;> exact ha
    | nil =>
      cases b with
      | false => exact ha
      | true => exact stepL_r t c d ps r' ha
theorem step_loop {t : GTask} {c : GCertificate} (hd : DomP t.Vars) (hc : CertP t.Vars c) (g : Nat) (hg : 70 ≤ g) (d : Int) (z : List (List Fact)) : ∀ (l : List (List Fact)) (i r : Int), PropL t.Vars l → 0 ≤ r ∧ r ≤ 1048576 →
    Rg (M_ck_step_L1_B g d z) (M_ck_step_L1_E g d z) l i (t.Vars, t.Init, t.Goal, t.Ops, c.Bound, c.Nogoods, r) = some ((stepL t c d l r).1, { t := t, c := c, steps := (stepL t c d l r).2 })
  | [], i, r, _, _ => rfl
  | p :: ps, i, r, hl, hr => by
    rw [Rg, M_ck_step_L1_B]
    show ixv p (fun y37 => ob3 (M_ck_covered g { t := t, c := c, steps := r } y37 d) _) = _
    rw [ixv, ask_eq hd hc g hg p (hl p (List.mem_cons_self ..)) d r hr, ob3_some, stepL]
    have ha := askC_r (t := t) (c := c) (p := p) (d := d) hr
    rcases hq : askC t c p d r with ⟨b, e, r'⟩
    rw [hq] at ha
    cases e with
    | no e => cases b <;> rfl
    | nil =>
      cases b with
      | false => rfl
      | true => exact step_loop hd hc g hg d z ps _ r' (fun x hx => hl x (List.mem_cons_of_mem _ hx)) ha
def distO (c : GCertificate) (n : Nogood) (o : GOp) : Int := if 0 ≤ c.Bound then n.2 + o.Cost else 0
def skipO (c : GCertificate) (n : Nogood) (o : GOp) : Bool := decide (0 ≤ c.Bound ∧ c.Bound ≤ n.2 + o.Cost)
def stepO (t : GTask) (c : GCertificate) (n : Nogood) (o : GOp) (r : Int) : Er × Int :=
  if skipO c n o = true then (.nil, r)
  else match regO t.Vars o n.1 with
    | none => (.no 5, r)
    | some l => stepL t c (distO c n o) l r
theorem stepO_r (t : GTask) (c : GCertificate) (n : Nogood) (o : GOp) (r : Int) (h : 0 ≤ r ∧ r ≤ 1048576) : 0 ≤ (stepO t c n o r).2 ∧ (stepO t c n o r).2 ≤ 1048576 := by
  unfold stepO
  split
  · exact h
  · split
    · exact h
    · exact stepL_r _ _ _ _ _ h
theorem regO_len {t : GTask} (hgood : goodF t = true) {p : List Fact} (hpf : propF t.Vars (-1) p = true) {o : GOp} (ho : o ∈ t.Ops) {l : List (List Fact)} (h : regO t.Vars o p = some l) : PropL t.Vars l ∧ l.length ≤ 1024 := by
  unfold regO at h
  cases hr : regG t.Vars o p [o.Pre] with
  | none => rw [hr] at h; cases h
  | some m =>
    rw [hr, Option.map_some] at h
    obtain rfl := Option.some.inj h
    obtain ⟨l1, -, l3⟩ := pre_prop hgood hpf ho hr
    refine ⟨fun x hx => l1 x (List.mem_filter.1 ((sortLL_mem x _).1 hx)).1, ?_⟩
    rw [sortLL_length]
    exact Nat.le_trans (List.length_filter_le _ _) l3
theorem good_cost {t : GTask} (h : goodF t = true) {o : GOp} (ho : o ∈ t.Ops) : 0 ≤ o.Cost ∧ o.Cost ≤ 1048576 := by
  unfold goodF at h
  simp only [Bool.and_eq_true, List.all_eq_true] at h
  have := h.2.2.2.2 o ho
  unfold opF at this
  simp only [Bool.and_eq_true, decide_eq_true_iff] at this
  exact ⟨this.1.1, this.1.2.1⟩
theorem step_eq {t : GTask} (ht : ShT t) (hgood : goodF t = true) {c : GCertificate} (hc : CertP t.Vars c) (g : Nat) (hg : 70 ≤ g) (n : Nogood) (hn : n ∈ c.Nogoods) (j : Nat) (o : GOp) (hj : t.Ops[j]? = some o) (r : Int) (hr : 0 ≤ r ∧ r ≤ 1048576) :
    M_ck_step g { t := t, c := c, steps := r } n j = some ((stepO t c n o r).1, { t := t, c := c, steps := (stepO t c n o r).2 }) := by
  have hd := good_dom hgood
  have ho := List.mem_of_getElem? hj
  have hcost := good_cost hgood ho
  have hn0 := hc.d0 n hn
  have hn1 := hc.d1 n hn
  have hb1 := hc.b1
  have hw : 0 ≤ c.Bound → IntKind.i64.wrap (n.2 + o.Cost) = n.2 + o.Cost := fun h => wrap_eq (by omega) (by have := hn1 h; omega)
  have hreg : ∀ v : Int, v = distO c n o → skipO c n o = false → ob2 (M_g_Regress g t (j : Int) n.1) (fun z7 z8 =>
      erM z8 (M_ck_step_L1 g v z7 ((((z7.map cL_cF).length : Int)).toNat + 1) 0 t.Vars t.Init t.Goal t.Ops c.Bound c.Nogoods r)
       (fun e9 => some ((Er.no e9), ({ t := t, c := c, steps := r } : GChecker)))) = some ((stepO t c n o r).1, { t := t, c := c, steps := (stepO t c n o r).2 }) := by
    intro v hv hs
    rw [regress_eq t ht hgood n.1 (hc.prop n hn) g hg (j : Int) o (by omega) (by rw [Int.toNat_natCast]; exact hj), ob2_res, stepO, hs, if_neg (by decide)]
    cases hro : regO t.Vars o n.1 with
    | none => rfl
    | some l =>
      obtain ⟨l1, l2⟩ := regO_len hgood (hc.prop n hn) ho hro
      simp only
      rw [M_ck_step_L1_eq g v l _ _ _ _ _ _ _ (by omega), step_loop hd hc g hg v l l 0 r l1 hr, hv]
  rw [M_ck_step]
  simp only [sel_dec, ge_iff_le]
  by_cases h : 0 ≤ c.Bound
  · rw [if_pos h, ix_at hj, hw h]
    by_cases h2 : c.Bound ≤ n.2 + o.Cost
    · have hs : skipO c n o = true := decide_eq_true ⟨h, h2⟩
      rw [if_pos h2, ob1_some, osum_inr, stepO, hs, if_pos rfl]
    · rw [if_neg h2, ob1_some, osum_inl]
      exact hreg _ (by rw [distO, if_pos h]) (decide_eq_false (by omega))
  · rw [if_neg h, ob1_some, osum_inl]
    exact hreg _ (by rw [distO, if_neg h]) (decide_eq_false (by omega))
/-- the operators for one nogood: the steps left, or where it fails -/
def opsC (t : GTask) (c : GCertificate) (n : Nogood) (i : Int) : List GOp → Int → Int → Int ⊕ (Int × Int × Er)
  | [], _, r => .inl r
  | o :: os, j, r => match stepO t c n o r with
    | (.nil, r') => opsC t c n i os (j + 1) r'
    | (.no e, _) => .inr (i, j, .no e)
def nogC (t : GTask) (c : GCertificate) : List Nogood → Int → Int → Int × Int × Er
  | [], _, _ => (-1, -1, .nil)
  | n :: ns, i, r => match opsC t c n i t.Ops 0 r with
    | .inl r' => nogC t c ns (i + 1) r'
    | .inr x => x
theorem opsC_r (t : GTask) (c : GCertificate) (n : Nogood) (i : Int) : ∀ (l : List GOp) (j r : Int), 0 ≤ r ∧ r ≤ 1048576 → ∀ r', opsC t c n i l j r = .inl r' → 0 ≤ r' ∧ r' ≤ 1048576
  | [], j, r, h, r', e => by rw [opsC] at e; injection e with e; omega
  | o :: os, j, r, h, r', e => by
    have hs := stepO_r t c n o r h
    rw [opsC] at e
    rcases hq : stepO t c n o r with ⟨x, y⟩
    rw [hq] at e hs
    cases x with
    | no x => cases e
    | nil => exact opsC_r t c n i os (j + 1) y hs r' e
theorem ops_loop {t : GTask} (ht : ShT t) (hgood : goodF t = true) {c : GCertificate} (hc : CertP t.Vars c) (g : Nat) (hg : 70 ≤ g) (n : Nogood) (hn : n ∈ c.Nogoods) (i : Int) : ∀ (l : List GOp) (m j : Nat) (r : Int), t.Ops.drop j = l → l.length = m → 0 ≤ r ∧ r ≤ 1048576 →
    Rn (M_checker_Where_L2_B t g i n) (M_checker_Where_L2_E t g i n) m j (t.Vars, t.Init, t.Goal, t.Ops, c.Bound, c.Nogoods, r) = some (match opsC t c n i l j r with | .inl r' => .inl (t.Vars, t.Init, t.Goal, t.Ops, c.Bound, c.Nogoods, r') | .inr x => .inr x)
  | [], m, j, r, _, hm, _ => by subst hm; rfl
  | o :: os, m, j, r, hdr, hm, hr => by
    obtain ⟨hj, hd', hlt⟩ := drop_cons hdr
    obtain ⟨m, rfl⟩ : ∃ k, m = k + 1 := ⟨os.length, hm.symm⟩
    rw [Rn, M_checker_Where_L2_B]
    show ob2 (M_ck_step g { t := t, c := c, steps := r } n (j : Int)) _ = _
    have hs := stepO_r t c n o r hr
    rw [step_eq ht hgood hc g hg n hn j o hj r hr, ob2_some, opsC]
    rcases hq : stepO t c n o r with ⟨x, y⟩
    rw [hq] at hs
    cases x with
    | no x => rfl
    | nil => exact ops_loop ht hgood hc g hg n hn i os m (j + 1) y hd' (by simpa using hm) hs
theorem nog_loop {t : GTask} (ht : ShT t) (hgood : goodF t = true) {c : GCertificate} (hc : CertP t.Vars c) (g : Nat) (hg : 70 ≤ g) : ∀ (l : List Nogood) (i r : Int), (∀ n ∈ l, n ∈ c.Nogoods) → 0 ≤ r ∧ r ≤ 1048576 →
    Rg (M_checker_Where_L3_B t c g) (M_checker_Where_L3_E t c g) l i (t.Vars, t.Init, t.Goal, t.Ops, c.Bound, c.Nogoods, r) = some (nogC t c l i r)
  | [], i, r, _, _ => rfl
  | n :: ns, i, r, hl, hr => by
    have hops : t.Ops.length ≤ 4096 := by
      unfold goodF at hgood
      simp only [Bool.and_eq_true, decide_eq_true_iff] at hgood
      exact hgood.1.2
    rw [Rg, M_checker_Where_L3_B]
    show ob1 (ixv n (fun y231 => M_checker_Where_L2 t g i y231 ((((t.Ops.map cGOp).length : Int)).toNat + 1) 0 t.Vars t.Init t.Goal t.Ops c.Bound c.Nogoods r)) _ = _
    rw [ixv, M_checker_Where_L2_eq t g i n _ _ _ _ _ _ _ (m := t.Ops.length) (by rw [List.length_map]) (by omega)]
    have e := ops_loop ht hgood hc g hg n (hl n (List.mem_cons_self ..)) i t.Ops t.Ops.length 0 r rfl rfl hr
    have e' : Rn (M_checker_Where_L2_B t g i n) (M_checker_Where_L2_E t g i n) t.Ops.length 0 (t.Vars, t.Init, t.Goal, t.Ops, c.Bound, c.Nogoods, r) = _ := e
    rw [e', ob1_some, nogC]
    have hr2 := opsC_r t c n i t.Ops 0 r hr
    show osum _ _ (match opsC t c n i t.Ops 0 r with | .inl r' => _ | .inr x => _) = _
    cases ho : opsC t c n i t.Ops 0 r with
    | inl r' => exact nog_loop ht hgood hc g hg ns _ r' (fun x hx => hl x (List.mem_cons_of_mem _ hx)) (hr2 r' ho)
    | inr x => rfl
/-- what Where answers for a right task and certificate -/
def whereC (t : GTask) (c : GCertificate) (r : Int) : Int × Int × Er :=
  if c.Nogoods.any (fun n => holdsF t.Init n.1) = true then (-1, -1, .no 20)
  else if c.Bound = 0 then nogC t c c.Nogoods 0 r
  else match askC t c t.Goal 0 r with
    | (true, .nil, r') => nogC t c c.Nogoods 0 r'
    | (false, .nil, _) => (-1, -1, .no 13)
    | (_, .no e, _) => (-1, -1, .no e)
def whereF (t : GTask) (c : GCertificate) (steps : Int) : Int × Int × Er :=
  match checkF t with
  | .no e => (-1, -1, .no e)
  | .nil => match properF t.Vars c with
    | .no e => (-1, -1, .no e)
    | .nil => whereC t c (max 0 (min steps 1048576))
theorem where_eq (t : GTask) (ht : ShT t) (c : GCertificate) (hc : ShC c) (steps : Int) (g : Nat) (hg : 70 ≤ g) : M_checker_Where g t c steps = some (whereF t c steps) := by
  rw [M_checker_Where, check_eq t ht, ob1_some, whereF]
  cases hck : checkF t with
  | no e => rfl
  | nil =>
    have hgood := (good_check t).2 hck
    show ob1 (M_ce_Proper t.Vars c) _ = _
    rw [cproper_eq t.Vars c hc, ob1_some]
    cases hpr : properF t.Vars c with
    | no e => rfl
    | nil =>
      have hcp := (properF_nil t.Vars c).1 hpr
      have hd := good_dom hgood
      have e1 := M_checker_Where_L1_eq t c hc.list.lt
      have hr : 0 ≤ max 0 (min steps 1048576) ∧ max 0 (min steps 1048576) ≤ 1048576 := by omega
      have hgoal : propF t.Vars (-1) t.Goal = true := by
        unfold goodF at hgood
        simp only [Bool.and_eq_true] at hgood
        exact hgood.2.2.2.1
      show ob1 (M_checker_Where_L1 t c _ 0) _ = _
      rw [e1, rg_all (p := fun n : Nogood => !holdsF t.Init n.1) (c := some (.inr ((-1), (-1), (Er.no 20)))), whereC]
      · have hna : (c.Nogoods.all fun n => !holdsF t.Init n.1) = !(c.Nogoods.any fun n => holdsF t.Init n.1) := by rw [List.not_any_eq_all_not]
        rw [hna]
        cases ha : c.Nogoods.any fun n => holdsF t.Init n.1 with
        | true => rfl
        | false =>
          rw [Bool.not_false, if_pos rfl, M_checker_Where_L1_E, ob1_some, osum_inl, if_neg (by decide)]
          have hnog : ∀ r : Int, 0 ≤ r ∧ r ≤ 1048576 → M_checker_Where_L3 t c g ((((c.Nogoods.map cN).length : Int)).toNat + 1) 0 t.Vars t.Init t.Goal t.Ops c.Bound c.Nogoods r = some (nogC t c c.Nogoods 0 r) := fun r hr => by
            rw [M_checker_Where_L3_eq t c g _ _ _ _ _ _ _ hc.list.lt, nog_loop ht hgood hcp g hg c.Nogoods 0 r (fun _ h => h) hr]
          by_cases hb : c.Bound = 0
          · rw [if_pos hb, show (c.Bound != 0) = false from by simp [hb], sel_ff, ob1_some, osum_inl]
            exact hnog _ hr
          · rw [if_neg hb, show (c.Bound != 0) = true from by simp [hb], sel_tt, ask_eq hd hcp g hg t.Goal hgoal 0 _ hr, ob3_some]
            have ha := askC_r (t := t) (c := c) (p := t.Goal) (d := 0) hr
            rcases hq : askC t c t.Goal 0 (max 0 (min steps 1048576)) with ⟨b, e, r'⟩
            rw [hq] at ha
            cases e with
            | no e => cases b <;> rfl
            | nil =>
              cases b with
              | false => rfl
              | true => exact hnog r' ha
      · intro n hn i rc
        rw [M_checker_Where_L1_B, ixv, tholds_eq n.1 t.Init (hc.each n hn), ob1_some]
        cases holdsF t.Init n.1 <;> rfl
def verF (t : GTask) (c : GCertificate) (steps : Int) : Er := (whereF t c steps).2.2
theorem verify_eq (t : GTask) (ht : ShT t) (c : GCertificate) (hc : ShC c) (steps : Int) (g : Nat) (hg : 70 ≤ g) : M_checker_Verify g t c steps = some (verF t c steps) := by
  rw [M_checker_Verify, where_eq t ht c hc steps g hg]
  rfl
end Go.Proofs.YtohjegemooakpaaGreat.Am
/- Plain: what it means that a certificate is accepted, with any number of steps. -/
namespace Go.Proofs.YtohjegemooakpaaGreat.Am
open Go.RowKit
def claimsF (ns : List Nogood) (s : List Int) (d : Int) : Bool := ns.any fun n => decide (n.2 ≤ d) && holdsF s n.1
theorem some_count {s : List Int} {ns : List Nogood} {d : Int} : some1 s (countL ns d) ↔ claimsF ns s d = true := by
  unfold some1 countL claimsF
  rw [List.any_eq_true]
  constructor
  · rintro ⟨z, hz, h⟩
    obtain ⟨n, hn, rfl⟩ := List.mem_map.1 hz
    obtain ⟨h1, h2⟩ := List.mem_filter.1 hn
    exact ⟨n, h1, by rw [h2, h]; rfl⟩
  · rintro ⟨n, hn, h⟩
    rw [Bool.and_eq_true] at h
    exact ⟨n.1, List.mem_map.2 ⟨n, List.mem_filter.2 ⟨hn, h.1⟩, rfl⟩, h.2⟩
def covB (t : GTask) (c : GCertificate) (d : Int) (p : List Fact) : Bool := (covA t.Vars p (countL c.Nogoods d)).1
theorem covB_true {t : GTask} (hgood : goodF t = true) {c : GCertificate} (hc : CertP t.Vars c) {p : List Fact} (hp : propF t.Vars (-1) p = true) (d : Int) : covB t c d p = true ↔ ∀ s, stateF t.Vars s = true → holdsF s p = true → claimsF c.Nogoods s d = true := by
  rw [covB, covA_true (good_dom hgood) hp (count_prop hc d)]
  exact forall_congr' fun s => by rw [some_count]
/-- whether the state leads by the operator to p -/
def inF (o : GOp) (p : List Fact) (s : List Int) : Bool := holdsF s o.Pre && holdsF (nextF s o) p
theorem inF_iff {t : GTask} (hgood : goodF t = true) {o : GOp} (ho : o ∈ t.Ops) {s : List Int} (hs : StP t.Vars s) {p : List Fact} (hp : propF t.Vars (-1) p = true) {l : List (List Fact)} (h : regO t.Vars o p = some l) : some1 s l ↔ inF o p s = true := by
  rw [some_regO hgood ho hs hp h, inF, Bool.and_eq_true, holds_next hgood hs ho hp]
/-- the document's conditions -/
structure Acc (t : GTask) (c : GCertificate) : Prop where
  init : ∀ n ∈ c.Nogoods, holdsF t.Init n.1 = false
  goal : c.Bound ≠ 0 → ∀ s ∈ allF t, holdsF s t.Goal = true → claimsF c.Nogoods s 0 = true
  step : ∀ n ∈ c.Nogoods, ∀ o ∈ t.Ops, skipO c n o = false → ∀ s ∈ allF t, inF o n.1 s = true → claimsF c.Nogoods s (distO c n o) = true
theorem good_goal {t : GTask} (h : goodF t = true) : propF t.Vars (-1) t.Goal = true := by
  unfold goodF at h
  simp only [Bool.and_eq_true] at h
  exact h.2.2.2.1
theorem ask_nil {t : GTask} {c : GCertificate} {p : List Fact} {d r : Int} (h : (askC t c p d r).2.1 = .nil) : (askC t c p d r).1 = covB t c d p := by
  unfold askC at h ⊢
  split at h
  · rename_i h1; rw [if_pos h1]; rfl
  · cases h
theorem stepL_nil (t : GTask) (c : GCertificate) (d : Int) : ∀ (l : List (List Fact)) (r : Int), (stepL t c d l r).1 = .nil → ∀ p ∈ l, covB t c d p = true
  | [], r, _, p, hp => by cases hp
  | p :: ps, r, h, q, hq => by
    have ha := ask_nil (t := t) (c := c) (p := p) (d := d) (r := r)
    rw [stepL] at h
    rcases hk : askC t c p d r with ⟨b, e, r'⟩
    rw [hk] at ha h
    cases e with
    | no e => cases b <;> cases h
    | nil =>
      cases b with
      | false => cases h
      | true =>
        rcases List.mem_cons.1 hq with rfl | hq
        · exact (ha rfl).symm
        · exact stepL_nil t c d ps r' h q hq
theorem opsC_inl (t : GTask) (c : GCertificate) (n : Nogood) (i : Int) : ∀ (l : List GOp) (j r r' : Int), opsC t c n i l j r = .inl r' → ∀ o ∈ l, ∃ x, (stepO t c n o x).1 = .nil
  | [], j, r, r', _, o, ho => by cases ho
  | o :: os, j, r, r', h, u, hu => by
    rw [opsC] at h
    rcases hk : stepO t c n o r with ⟨e, y⟩
    rw [hk] at h
    cases e with
    | no e => cases h
    | nil =>
      rcases List.mem_cons.1 hu with rfl | hu
      · exact ⟨r, by rw [hk]⟩
      · exact opsC_inl t c n i os (j + 1) y r' h u hu
theorem nogC_nil (t : GTask) (c : GCertificate) : ∀ (l : List Nogood) (i r : Int), (nogC t c l i r).2.2 = .nil → ∀ n ∈ l, ∀ o ∈ t.Ops, ∃ x, (stepO t c n o x).1 = .nil
  | [], i, r, _, n, hn => by cases hn
  | n :: ns, i, r, h, u, hu => by
    rw [nogC] at h
    cases hk : opsC t c n i t.Ops 0 r with
    | inl r' =>
      rw [hk] at h
      rcases List.mem_cons.1 hu with rfl | hu
      · exact opsC_inl t c u i t.Ops 0 r r' hk
      · exact nogC_nil t c ns (i + 1) r' h u hu
    | inr x =>
      exfalso
      have key : ∀ (l : List GOp) (j r : Int) (x : Int × Int × Er), opsC t c n i l j r = .inr x → x.2.2 ≠ .nil := by
        intro l
        induction l with
        | nil => intro j r x e; cases e
        | cons o os ih =>
          intro j r x e
          rw [opsC] at e
          rcases hs : stepO t c n o r with ⟨e1, y⟩
          rw [hs] at e
          cases e1 with
          | no z => injection e with e; subst e; exact fun h => by cases h
          | nil => exact ih (j + 1) y x e
      rw [hk] at h
      exact key _ _ _ _ hk h
theorem step_acc {t : GTask} (hgood : goodF t = true) {c : GCertificate} (hc : CertP t.Vars c) (h : ∀ n ∈ c.Nogoods, ∀ o ∈ t.Ops, ∃ x, (stepO t c n o x).1 = .nil) : ∀ n ∈ c.Nogoods, ∀ o ∈ t.Ops, skipO c n o = false → ∀ s ∈ allF t, inF o n.1 s = true → claimsF c.Nogoods s (distO c n o) = true := by
  intro n hn o ho hsk s hs hi
  obtain ⟨x, hx⟩ := h n hn o ho
  rw [stepO, hsk, if_neg (by decide)] at hx
  cases hro : regO t.Vars o n.1 with
  | none => rw [hro] at hx; cases hx
  | some l =>
    rw [hro] at hx
    have hst := (allF_mem t s).1 hs
    obtain ⟨z, hz, hh⟩ := (inF_iff hgood ho (stateF_st hst) (hc.prop n hn) hro).2 hi
    exact (covB_true hgood hc ((regO_len hgood (hc.prop n hn) ho hro).1 z hz) _).1 (stepL_nil t c _ l x hx z hz) s hst hh
theorem ver_acc {t : GTask} {c : GCertificate} {steps : Int} (h : verF t c steps = .nil) : goodF t = true ∧ CertP t.Vars c ∧ Acc t c := by
  unfold verF whereF at h
  cases hck : checkF t with
  | no e => rw [hck] at h; cases h
  | nil =>
    have hgood := (good_check t).2 hck
    rw [hck] at h
    simp only at h
    cases hp : properF t.Vars c with
    | no e => rw [hp] at h; cases h
    | nil =>
      have hc := (properF_nil t.Vars c).1 hp
      rw [hp] at h
      simp only at h
      refine ⟨hgood, hc, ?_⟩
      unfold whereC at h
      cases hi : c.Nogoods.any fun n => holdsF t.Init n.1 with
      | true => rw [hi, if_pos rfl] at h; cases h
      | false =>
        rw [hi, if_neg (by decide)] at h
        have hin : ∀ n ∈ c.Nogoods, holdsF t.Init n.1 = false := fun n hn => by
          rw [Bool.eq_false_iff]
          intro h2
          rw [List.any_eq_true.2 ⟨n, hn, h2⟩] at hi
          cases hi
        by_cases hb : c.Bound = 0
        · rw [if_pos hb] at h
          exact ⟨hin, fun h2 => absurd hb h2, step_acc hgood hc (nogC_nil t c _ _ _ h)⟩
        · rw [if_neg hb] at h
          have ha := ask_nil (t := t) (c := c) (p := t.Goal) (d := 0) (r := max 0 (min steps 1048576))
          rcases hk : askC t c t.Goal 0 (max 0 (min steps 1048576)) with ⟨b, e, r'⟩
          rw [hk] at ha h
          cases e with
          | no e => cases b <;> cases h
          | nil =>
            cases b with
            | false => cases h
            | true => exact ⟨hin, fun _ s hs hh => (covB_true hgood hc (good_goal hgood) 0).1 (ha rfl).symm s ((allF_mem t s).1 hs) hh, step_acc hgood hc (nogC_nil t c _ _ _ h)⟩
end Go.Proofs.YtohjegemooakpaaGreat.Am
/- Plain: stratagembase.Tame. -/
namespace Go.Proofs.YtohjegemooakpaaGreat.Am
open Go.RowKit
def condN (es : List GEffect) : Nat := (es.filter fun e => decide (0 < e.When.length)).length
theorem condN_le (es : List GEffect) : condN es ≤ es.length := List.length_filter_le _ _
theorem condN_cons (e : GEffect) (es : List GEffect) : condN (e :: es) = (if 0 < e.When.length then 1 else 0) + condN es := by
  unfold condN
  rw [List.filter_cons]
  by_cases h : 0 < e.When.length
  · rw [if_pos (decide_eq_true h), if_pos h, List.length_cons]; omega
  · rw [if_neg (by simpa using h), if_neg h]; omega
def twoF (es : List GEffect) : Bool := es.all fun e => decide (e.When.length ≤ 2)
theorem tame2 (o : GOp) : ∀ (r : List GEffect) (i : Int) (v : Nat), v + r.length ≤ 1000000 → Rg (M_b_Tame_L2_B o) (M_b_Tame_L2_E o) r i v = some (if twoF r = true then .inl ((v + condN r : Nat) : Int) else .inr false)
  | [], i, v, _ => rfl
  | e :: r, i, v, h => by
    rw [List.length_cons] at h
    rw [Rg, M_b_Tame_L2_B, ixv, sel_dec, sel_dec, List.length_map, twoF, List.all_cons, condN_cons]
    by_cases h1 : e.When.length > 2
    · rw [if_pos (by omega), decide_eq_false (by omega), Bool.false_and, if_neg (by decide)]
    · rw [if_neg (by omega), decide_eq_true (p := e.When.length ≤ 2) (by omega), Bool.true_and]
      by_cases h2 : 0 < e.When.length
      · rw [if_pos (by omega), if_pos h2, wrap_eq (by omega) (by omega), show ((v : Int) + 1) = ((v + 1 : Nat) : Int) from rfl, tame2 o r _ (v + 1) (by omega), Nat.add_assoc]; rfl
      · rw [if_neg (by omega), if_neg h2, tame2 o r _ v (by omega), Nat.zero_add]; rfl
def tameO (o : GOp) : Bool := twoF o.Effs && decide (condN o.Effs ≤ 3)
def tameF (t : GTask) : Bool := smallF t && (t.Vars.all (fun n => decide (2 ≤ n ∧ n ≤ 4)) && t.Ops.all tameO)
theorem tame_eq (t : GTask) (ht : ShT t) : M_b_Tame t = some (tameF t) := by
  rw [M_b_Tame, small_eq t ht, ob1_some, tameF]
  cases hs : smallF t with
  | false => rfl
  | true =>
    obtain ⟨hgood, hv, ho⟩ := small_good hs
    have e1 := M_b_Tame_L1_eq t (by omega)
    have e3 := M_b_Tame_L3_eq t (by omega)
    rw [Bool.not_true, sel_ff, e1, rg_all (p := fun n : Int => decide (2 ≤ n ∧ n ≤ 4)) (c := some (.inr false))]
    · cases t.Vars.all fun n => decide (2 ≤ n ∧ n ≤ 4) with
      | false => rfl
      | true =>
        rw [if_pos rfl, M_b_Tame_L1_E, ob1_some, osum_inl, e3, rg_all (p := tameO) (c := some false), M_b_Tame_L3_E]
        · cases t.Ops.all tameO <;> rfl
        · intro o hom i rc
          have hl := (good_op hgood hom).effs
          have e2 := M_b_Tame_L2_eq o 0 (show o.Effs.length < _ by omega)
          have e2' : Rg (M_b_Tame_L2_B o) (M_b_Tame_L2_E o) o.Effs 0 0 = _ := tame2 o o.Effs 0 0 (by omega)
          have hc := condN_le o.Effs
          rw [M_b_Tame_L3_B, ixv, e2, e2', Nat.zero_add, ob1_some, tameO]
          cases twoF o.Effs with
          | false => rfl
          | true =>
            rw [if_pos rfl, osum_inl, sel_dec, Bool.true_and]
            by_cases h3 : condN o.Effs ≤ 3
            · rw [if_neg (by omega), if_pos (decide_eq_true h3)]; rfl
            · rw [if_pos (by omega), if_neg (by simpa using h3)]; rfl
    · intro n _ i rc
      rw [M_b_Tame_L1_B, ixv, sel_dec, sel_dec]
      by_cases h1 : n < 2
      · rw [if_pos h1, if_neg (by rw [decide_eq_true_iff]; omega)]
      · rw [if_neg h1]
        by_cases h2 : n > 4
        · rw [if_pos h2, if_neg (by rw [decide_eq_true_iff]; omega)]
        · rw [if_neg h2, if_pos (by rw [decide_eq_true_iff]; omega)]
theorem tame_small {t : GTask} (h : tameF t = true) : smallF t = true := by
  unfold tameF at h
  rw [Bool.and_eq_true] at h
  exact h.1
end Go.Proofs.YtohjegemooakpaaGreat.Am
/- Plain law: the number of the states as a product. -/
namespace Go.Proofs.YtohjegemooakpaaGreat.Am
open Go.RowKit
def prodN : List Int → Nat
  | [] => 1
  | k :: r => k.toNat * prodN r
theorem prodN_pos : ∀ {l : List Int}, (∀ k ∈ l, 1 ≤ k ∧ k ≤ 64) → 0 < prodN l
  | [], _ => Nat.one_pos
  | k :: r, h => by
    have := h k (List.mem_cons_self ..)
    exact Nat.mul_pos (by omega) (prodN_pos fun x hx => h x (List.mem_cons_of_mem _ hx))
theorem manyF_prod (L : Nat) : ∀ (r : List Int) (n : Nat), (∀ k ∈ r, 1 ≤ k ∧ k ≤ 64) → 1 ≤ n → n ≤ L + 1 → manyF L r n = if n * prodN r ≤ L then ((n * prodN r : Nat) : Int) else (L : Int) + 1
  | [], n, _, h1, h2 => by
    rw [manyF, prodN, Nat.mul_one]
    split <;> omega
  | k :: r, n, hk, h1, h2 => by
    obtain ⟨k1, k2⟩ := hk k (List.mem_cons_self ..)
    have hp := prodN_pos fun x hx => hk x (List.mem_cons_of_mem _ hx)
    obtain ⟨q, rfl⟩ : ∃ q : Nat, k = q := ⟨k.toNat, by omega⟩
    rw [manyF, prodN, Int.toNat_natCast]
    by_cases hb : n * q ≤ L
    · have hq : q ≤ L := Nat.le_trans (Nat.le_mul_of_pos_left q (by omega)) hb
      rw [show min (max (q : Int) 0) ((L : Int) + 1) = (q : Int) from by omega, ← Int.natCast_mul, if_neg (by omega), manyF_prod L r (n * q) (fun x hx => hk x (List.mem_cons_of_mem _ hx)) (Nat.mul_pos (by omega) (by omega)) (by omega), Nat.mul_assoc]
    · have h3 : ¬ n * (q * prodN r) ≤ L := fun h => hb (Nat.le_trans (by rw [← Nat.mul_assoc]; exact Nat.le_mul_of_pos_right _ hp) h)
      rw [if_neg h3]
      have h4 : (n : Int) * min (max (q : Int) 0) ((L : Int) + 1) > L := by
        by_cases h5 : (q : Int) ≤ (L : Int) + 1
        · rw [show min (max (q : Int) 0) ((L : Int) + 1) = (q : Int) from by omega, ← Int.natCast_mul]; omega
        · rw [show min (max (q : Int) 0) ((L : Int) + 1) = ((L + 1 : Nat) : Int) from by omega, ← Int.natCast_mul]
          have := Nat.le_mul_of_pos_left (L + 1) (show 0 < n by omega)
          omega
      rw [if_pos h4]
end Go.Proofs.YtohjegemooakpaaGreat.Am
/- Plain law: a regression in a small task is never too large. -/
namespace Go.Proofs.YtohjegemooakpaaGreat.Am
open Go.RowKit
/-- all partial states over the variables from i on -/
def ptX (i : Int) (p : List Fact) : Nat → Int → List (List Fact)
  | 0, _ => []
  | m + 1, x => ((i, x) :: p) :: ptX i p m (x + 1)
def ptL : Int → List Int → List (List Fact)
  | _, [] => [[]]
  | i, n :: r => ptL (i + 1) r ++ (ptL (i + 1) r).flatMap fun p => ptX i p n.toNat 0
def ptN : List Int → Nat
  | [] => 1
  | n :: r => (n.toNat + 1) * ptN r
theorem ptX_len (i : Int) (p : List Fact) : ∀ (m : Nat) (x : Int), (ptX i p m x).length = m
  | 0, _ => rfl
  | m + 1, x => by rw [ptX, List.length_cons, ptX_len i p m]
theorem ptX_mem (i : Int) (p : List Fact) : ∀ (m : Nat) (x y : Int), x ≤ y → y < x + m → (i, y) :: p ∈ ptX i p m x
  | 0, x, y, h1, h2 => by omega
  | m + 1, x, y, h1, h2 => by
    rw [ptX, List.mem_cons]
    by_cases h : y = x
    · exact .inl (by rw [h])
    · exact .inr (ptX_mem i p m (x + 1) y (by omega) (by omega))
theorem ptL_len : ∀ (r : List Int) (i : Int), (ptL i r).length = ptN r
  | [], _ => rfl
  | n :: r, i => by
    have h : ∀ l : List (List Fact), (l.flatMap fun p => ptX i p n.toNat 0).length = l.length * n.toNat := by
      intro l
      induction l with
      | nil => simp
      | cons p l ih => rw [List.flatMap_cons, List.length_append, ptX_len, ih, List.length_cons, Nat.succ_mul]; omega
    rw [ptL, List.length_append, h, ptL_len r, ptN, Nat.succ_mul, Nat.mul_comm n.toNat]
    omega
theorem propF_up {vars : List Int} {last i : Int} {y : Fact} {q : List Fact} (h : propF vars last (y :: q) = true) (hi : i < y.1) : propF vars i (y :: q) = true := by
  rw [propF, Bool.and_eq_true, decide_eq_true_iff] at h ⊢
  exact ⟨⟨hi, h.1.2⟩, h.2⟩
theorem ptL_mem {vars : List Int} : ∀ (r : List Int) (i : Nat), vars.drop i = r → ∀ (p : List Fact) (last : Int), (i : Int) - 1 ≤ last → propF vars last p = true → p ∈ ptL i r
  | [], i, hd, [], last, h1, h2 => by rw [ptL]; exact List.mem_singleton.2 rfl
  | [], i, hd, y :: q, last, h1, h2 => by
    rw [propF, Bool.and_eq_true, decide_eq_true_iff] at h2
    have : vars.length ≤ i := by rw [← List.drop_eq_nil_iff]; exact hd
    omega
  | n :: r, i, hd, p, last, h1, h2 => by
    obtain ⟨hn, hd', hlt⟩ := drop_cons hd
    have ih := ptL_mem r (i + 1) hd'
    rw [show ((i + 1 : Nat) : Int) = (i : Int) + 1 from rfl] at ih
    rw [ptL, List.mem_append]
    cases p with
    | nil => exact .inl (ih [] (i : Int) (by omega) rfl)
    | cons y q =>
      have h3 := h2
      rw [propF, Bool.and_eq_true, decide_eq_true_iff] at h3
      by_cases hy : y.1 = i
      · refine .inr (List.mem_flatMap.2 ⟨q, ih q y.1 (by omega) h3.2, ?_⟩)
        have hg : vars.getD y.1.toNat 0 = n := by rw [hy, Int.toNat_natCast, List.getD_eq_getElem?_getD, hn]; rfl
        have := ptX_mem i q n.toNat 0 y.2 h3.1.2.2.1 (by have := h3.1.2.2.2; rw [hg] at this; omega)
        rw [← hy] at this ⊢
        exact this
      · exact .inl (ih (y :: q) (i : Int) (by omega) (propF_up h2 (by omega)))
theorem ptN_le : ∀ {r : List Int}, (∀ k ∈ r, 2 ≤ k) → 2 ^ r.length * ptN r ≤ 3 ^ r.length * prodN r ∧ 2 ^ r.length ≤ prodN r
  | [], _ => ⟨Nat.le_refl _, Nat.le_refl _⟩
  | k :: r, h => by
    obtain ⟨h1, h2⟩ := ptN_le (r := r) fun x hx => h x (List.mem_cons_of_mem _ hx)
    have hk := h k (List.mem_cons_self ..)
    obtain ⟨q, rfl⟩ : ∃ q : Nat, k = q := ⟨k.toNat, by omega⟩
    rw [List.length_cons, ptN, prodN, Int.toNat_natCast, Nat.pow_succ, Nat.pow_succ]
    have h3 : 2 * (q + 1) ≤ 3 * q := by omega
    constructor
    · calc 2 ^ r.length * 2 * ((q + 1) * ptN r) = (2 * (q + 1)) * (2 ^ r.length * ptN r) := by ac_rfl
        _ ≤ (3 * q) * (3 ^ r.length * prodN r) := Nat.mul_le_mul h3 h1
        _ = 3 ^ r.length * 3 * (q * prodN r) := by ac_rfl
    · rw [Nat.mul_comm]
      exact Nat.mul_le_mul (by omega) h2
theorem pt_small {v : List Int} (h2 : ∀ k ∈ v, 2 ≤ k) (hp : prodN v ≤ 81) : ptN v ≤ 1024 := by
  obtain ⟨h1, h3⟩ := ptN_le h2
  have hk : v.length < 7 := by
    refine Nat.lt_of_not_le fun h => ?_
    have := Nat.pow_le_pow_right (show 0 < 2 by decide) h
    omega
  have h4 : 2 ^ v.length * ptN v ≤ 3 ^ v.length * 81 := Nat.le_trans h1 (Nat.mul_le_mul_left _ hp)
  generalize v.length = k at hk h4
  have : k = 0 ∨ k = 1 ∨ k = 2 ∨ k = 3 ∨ k = 4 ∨ k = 5 ∨ k = 6 := by omega
  rcases this with rfl | rfl | rfl | rfl | rfl | rfl | rfl <;> simp only [Nat.reducePow] at h4 <;> omega
theorem nodupT_le {α : Type} [DecidableEq α] : ∀ (l u : List α), l.Nodup → (∀ x ∈ l, x ∈ u) → l.length ≤ u.length
  | [], _, _, _ => Nat.zero_le _
  | x :: l, u, h, hs => by
    rw [List.nodup_cons] at h
    have := nodupT_le l (u.erase x) h.2 fun y hy => (List.mem_erase_of_ne (fun e => h.1 (by rw [← e]; exact hy))).2 (hs y (List.mem_cons_of_mem _ hy))
    have hx := hs x (List.mem_cons_self ..)
    have hl := List.length_erase_of_mem hx
    have hp := List.length_pos_of_mem hx
    rw [List.length_cons]
    omega
/-- lists of different partial states stay below the limit -/
structure Cap (vars : List Int) : Prop where
  cap : ∀ l : List (List Fact), l.Nodup → PropL vars l → l.length ≤ 1024
  len : vars.length ≤ 12
  dom : ∀ n ∈ vars, n ≤ 64
theorem cap_of {v : List Int} (h2 : ∀ k ∈ v, 2 ≤ k ∧ k ≤ 4) (hl : v.length ≤ 12) (hp : prodN v ≤ 81) : Cap v := by
  refine ⟨fun l hn hpr => ?_, hl, fun n hn => by have := h2 n hn; omega⟩
  have := nodupT_le l (ptL 0 v) hn fun x hx => ptL_mem v 0 (List.drop_zero ..) x (-1) (by omega) (hpr x hx)
  rw [ptL_len] at this
  exact Nat.le_trans this (pt_small (fun k hk => (h2 k hk).1) hp)
theorem foldT_nodup : ∀ (l out : List (List Fact)), out.Nodup → (l.foldl addN out).Nodup
  | [], _, h => h
  | y :: r, _, h => foldT_nodup r _ (addN_nodup h y)
section
variable {vars : List Int} (hc : Cap vars)
include hc
theorem capT {l : List (List Fact)} (hn : l.Nodup) (hp : PropL vars l) : capO l = some l := if_pos (hc.cap l hn hp)
theorem quietT {f : Fact} : ∀ (es : List GEffect) (l : List (List Fact)), WhenP vars es → PropL vars l → ∃ j, quietG vars f es l = some j ∧ PropL vars j
  | [], l, _, h => ⟨l, rfl, h⟩
  | e :: r, l, hw, h => by
    have hwr : WhenP vars r := fun x hx => hw x (List.mem_cons_of_mem _ hx)
    rw [quietG]
    split
    · exact quietT r l hwr h
    · have he := hw e (List.mem_cons_self ..)
      have h1 : capO (silF vars e.When) = some (silF vars e.When) := if_pos (by
        have := silF_len hc.dom e.When
        have := propF_len' he
        have := hc.len
        omega)
      have hpj := joinLL_prop h (silF_prop he)
      rw [h1, Option.bind_some, capT hc (joinLL_nodup _ _) hpj, Option.bind_some]
      exact quietT r _ hwr hpj
theorem casesT {f : Fact} : ∀ (es : List GEffect), WhenP vars es → ∃ out, casesG vars f es = some out ∧ PropL vars out ∧ out.Nodup
  | [], _ => ⟨[], rfl, (fun x hx => by cases hx), List.nodup_nil⟩
  | e :: r, hw => by
    have hwr : WhenP vars r := fun x hx => hw x (List.mem_cons_of_mem _ hx)
    obtain ⟨out, h1, h2, h3⟩ := casesT (f := f) r hwr
    rw [casesG, h1, Option.bind_some]
    split
    · obtain ⟨j, j1, j2⟩ := quietT hc (f := f) r [e.When] hwr (fun x hx => by rw [List.mem_singleton.1 hx]; exact hw e (List.mem_cons_self ..))
      rw [j1, Option.map_some]
      exact ⟨_, rfl, fun x hx => by rcases (foldN_mem x j out).1 hx with h | h; exact h2 x h; exact j2 x h, foldT_nodup _ _ h3⟩
    · exact ⟨out, rfl, h2, h3⟩
theorem casesOT {o : GOp} {f : Fact} (hw : WhenP vars o.Effs) (hf : propF vars (-1) [f] = true) : ∃ c, casesO vars o f = some c ∧ PropL vars c := by
  have hw2 : WhenP vars (o.Effs.filter (fun e => e.Var == f.1)) := fun e he => hw e (List.mem_filter.1 he).1
  obtain ⟨out, h1, h2, h3⟩ := casesT hc (f := f) _ hw2
  obtain ⟨j, j1, j2⟩ := quietT hc (f := f) _ [[f]] hw2 (fun x hx => by rw [List.mem_singleton.1 hx]; exact hf)
  have hp : PropL vars (j.foldl addN out) := fun x hx => by rcases (foldN_mem x j out).1 hx with h | h; exact h2 x h; exact j2 x h
  rw [casesO, casesE, h1, Option.bind_some, j1, Option.map_some, Option.bind_some, capT hc (foldT_nodup _ _ h3) hp]
  exact ⟨_, rfl, hp⟩
theorem regGT {o : GOp} (hw : WhenP vars o.Effs) : ∀ (p : List Fact) (l : List (List Fact)), (∀ f ∈ p, propF vars (-1) [f] = true) → PropL vars l → ∃ j, regG vars o p l = some j
  | [], l, _, _ => ⟨l, rfl⟩
  | f :: r, l, hp, hl => by
    obtain ⟨c, h1, h2⟩ := casesOT hc hw (hp f (List.mem_cons_self ..))
    have hj := joinLL_prop hl h2
    rw [regG, h1, Option.bind_some, capT hc (joinLL_nodup _ _) hj, Option.bind_some]
    exact regGT hw r _ (fun x hx => hp x (List.mem_cons_of_mem _ hx)) hj
end
theorem regT {t : GTask} (hc : Cap t.Vars) (hgood : goodF t = true) {p : List Fact} (hp : propF t.Vars (-1) p = true) {o : GOp} (ho : o ∈ t.Ops) : ∃ l, regO t.Vars o p = some l ∧ PropL t.Vars l ∧ l.length ≤ 1024 := by
  have oo := good_op hgood ho
  obtain ⟨j, h1⟩ := regGT hc oo.when p [o.Pre] (fun f hf => propF_one hp hf) (fun x hx => by rw [List.mem_singleton.1 hx]; exact oo.pre)
  obtain ⟨l1, _, l3⟩ := pre_prop hgood hp ho h1
  rw [regO, h1, Option.map_some]
  refine ⟨_, rfl, fun z hz => l1 z (List.mem_filter.1 ((sortLL_mem z _).1 hz)).1, ?_⟩
  rw [sortLL_length]
  exact Nat.le_trans (List.length_filter_le _ _) l3
/-- the tasks of these laws -/
def fitF (t : GTask) : Bool := tameF t && (decide (t.Ops.length ≤ 10) && decide (manyF 81 t.Vars 1 ≤ 81))
structure Fit (t : GTask) : Prop where
  good : goodF t = true
  cap : Cap t.Vars
  ops : t.Ops.length ≤ 10
  small : smallF t = true
  prod : prodN t.Vars ≤ 81
  dom : ∀ k ∈ t.Vars, 2 ≤ k ∧ k ≤ 4
theorem fit_of {t : GTask} (h : fitF t = true) : Fit t := by
  unfold fitF at h
  rw [Bool.and_eq_true, Bool.and_eq_true, decide_eq_true_iff, decide_eq_true_iff] at h
  obtain ⟨h1, h2, h3⟩ := h
  have hs := tame_small h1
  obtain ⟨hg, hv, -⟩ := small_good hs
  unfold tameF at h1
  simp only [Bool.and_eq_true, List.all_eq_true, decide_eq_true_iff] at h1
  have hd := h1.2.1
  have hp : prodN t.Vars ≤ 81 := by
    have hm := manyF_prod 81 t.Vars 1 (fun k hk => by have := hd k hk; omega) (by decide) (by decide)
    rw [show ((81 : Nat) : Int) = 81 from rfl, show ((1 : Nat) : Int) = 1 from rfl, Nat.one_mul] at hm
    rw [hm] at h3
    split at h3 <;> omega
  exact ⟨hg, cap_of hd hv hp, h2, hs, hp, hd⟩
end Go.Proofs.YtohjegemooakpaaGreat.Am
/- Plain law: what meets the document's conditions is accepted, if the steps last. -/
namespace Go.Proofs.YtohjegemooakpaaGreat.Am
open Go.RowKit
def NF (e : Er) : Prop := e = .nil ∨ e = .no 10
theorem ask_nf (t : GTask) (c : GCertificate) (p : List Fact) (d r : Int) : (askC t c p d r).2.1 = .no 10 ∨ ((askC t c p d r).2.1 = .nil ∧ (askC t c p d r).1 = covB t c d p) := by
  unfold askC
  split
  · exact .inr ⟨rfl, rfl⟩
  · exact .inl rfl
theorem stepL_nf (t : GTask) (c : GCertificate) (d : Int) : ∀ (l : List (List Fact)) (r : Int), (∀ p ∈ l, covB t c d p = true) → NF (stepL t c d l r).1
  | [], r, _ => .inl rfl
  | p :: ps, r, h => by
    have ha := ask_nf t c p d r
    have hp := h p (List.mem_cons_self ..)
    rw [stepL]
    rcases hk : askC t c p d r with ⟨b, e, r'⟩
    rw [hk] at ha
    rcases ha with ha | ⟨ha, hb⟩
    · simp only at ha
      subst ha
      cases b <;> exact .inr rfl
    · simp only at ha hb
      subst ha
      rw [hp] at hb
      subst hb
      exact stepL_nf t c d ps r' (fun q hq => h q (List.mem_cons_of_mem _ hq))
section
variable {t : GTask} (hf : Fit t) {c : GCertificate} (hc : CertP t.Vars c) (ha : Acc t c)
include hf hc ha
theorem stepO_nf {n : Nogood} (hn : n ∈ c.Nogoods) {o : GOp} (ho : o ∈ t.Ops) (r : Int) : NF (stepO t c n o r).1 := by
  unfold stepO
  split
  · exact .inl rfl
  · rename_i hsk
    obtain ⟨l, l1, l2, -⟩ := regT hf.cap hf.good (hc.prop n hn) ho
    rw [l1]
    refine stepL_nf t c _ l r (fun p hp => (covB_true hf.good hc (l2 p hp) _).2 fun s hs hh => ?_)
    exact ha.step n hn o ho (Bool.eq_false_iff.2 hsk) s ((allF_mem t s).2 hs) ((inF_iff hf.good ho (stateF_st hs) (hc.prop n hn) l1).1 ⟨p, hp, hh⟩)
theorem opsC_nf {n : Nogood} (hn : n ∈ c.Nogoods) (i : Int) : ∀ (l : List GOp) (j r : Int), (∀ o ∈ l, o ∈ t.Ops) → (∃ r', opsC t c n i l j r = .inl r') ∨ ∃ x, opsC t c n i l j r = .inr x ∧ x.2.2 = .no 10
  | [], j, r, _ => .inl ⟨r, rfl⟩
  | o :: os, j, r, h => by
    have hs := stepO_nf hf hc ha hn (h o (List.mem_cons_self ..)) r
    rw [opsC]
    rcases hk : stepO t c n o r with ⟨e, r'⟩
    rw [hk] at hs
    rcases hs with hs | hs <;> (simp only at hs; subst hs)
    · exact opsC_nf hn i os (j + 1) r' (fun u hu => h u (List.mem_cons_of_mem _ hu))
    · exact .inr ⟨_, rfl, rfl⟩
theorem nogC_nf : ∀ (l : List Nogood) (i r : Int), (∀ n ∈ l, n ∈ c.Nogoods) → NF (nogC t c l i r).2.2
  | [], i, r, _ => .inl rfl
  | n :: ns, i, r, h => by
    rw [nogC]
    rcases opsC_nf hf hc ha (h n (List.mem_cons_self ..)) i t.Ops 0 r (fun _ h => h) with ⟨r', h1⟩ | ⟨x, h1, h2⟩
    · rw [h1]; exact nogC_nf ns (i + 1) r' (fun u hu => h u (List.mem_cons_of_mem _ hu))
    · rw [h1]; exact .inr h2
theorem acc_ver (steps : Int) : NF (verF t c steps) := by
  unfold verF whereF
  rw [(good_check t).1 hf.good]
  simp only
  rw [(properF_nil t.Vars c).2 hc]
  simp only
  unfold whereC
  have hi : ¬ (c.Nogoods.any fun n => holdsF t.Init n.1) = true := fun h => by
    obtain ⟨n, hn, h2⟩ := List.any_eq_true.1 h
    rw [ha.init n hn] at h2
    cases h2
  rw [if_neg hi]
  split
  · exact nogC_nf hf hc ha _ _ _ fun _ h => h
  · rename_i hb
    have hk := ask_nf t c t.Goal 0 (max 0 (min steps 1048576))
    have hg : covB t c 0 t.Goal = true := (covB_true hf.good hc (good_goal hf.good) 0).2 fun s hs hh => ha.goal hb s ((allF_mem t s).2 hs) hh
    rcases hk2 : askC t c t.Goal 0 (max 0 (min steps 1048576)) with ⟨b, e, r'⟩
    rw [hk2] at hk
    rcases hk with hk | ⟨hk, hb2⟩
    · simp only at hk; subst hk
      cases b <;> exact .inr rfl
    · simp only at hk hb2
      subst hk
      rw [hg] at hb2
      subst hb2
      exact nogC_nf hf hc ha _ _ _ fun _ h => h
end
end Go.Proofs.YtohjegemooakpaaGreat.Am
/- Models printed by my decompiler, and the proofs that the code computes them. -/
namespace Go.Proofs.YtohjegemooakpaaGreat.Am
set_option maxHeartbeats 16000000
set_option maxRecDepth 100000
open Go.RowKit
theorem zg_XDJn {P : Prop} (h : P := by repeat (first | exact True.intro | exact gb_nil rfl rfl | exact gb_take rfl ⟨rfl, rfl, rfl⟩ List.map_take FrI.h | refine gb_some ⟨rfl, rfl, rfl⟩ ?_ | refine And.intro ?_ ?_ | refine gw_ren rfl rfl rfl rfl rfl ?_ | exact gw_oren rfl rfl rfl rfl rfl | exact gw_opren rfl rfl rfl rfl rfl | exact gw_onil rfl rfl | refine gw_pren rfl rfl rfl rfl rfl | exact gw_thaw rfl rfl rfl | refine gw_tup ?_ | refine gw_ifc ?_ | exact GWL.nil | exact gwll_nil | exact gw_c | exact GW.sl | exact GW.nil | exact gwll_same rfl FrI.h | refine GWL.cons ?_ ?_ | refine gwll_cons ?_ ?_ | (refine gw_own3 rfl rfl rfl FrI.h ?_ ?_ ?_) | exact GW.fr FrV.h | exact GW.fr (by assumption) | refine gw_agg ?_ | refine gw_clo ?_ | refine gw_ptr rfl rfl rfl ?_ | (refine gw_own rfl rfl rfl ?_ FrI.h ?_ ?_) | assumption | omega | rfl | (rw [List.length_map, ← List.length_append]; assumption) | (refine gwll_same ?_ FrI.h; (simp [cGTask, cI, cF, cGOp, cGEffect, cGCertificate, cN] <;> fail)) | (rw [List.map_set]; refine gwll_set (by first | rfl | omega | simp) ?_ ?_) | refine gwll_set (by first | rfl | omega | simp) ?_ ?_ | (rw [List.map_replicate]; refine gwll_rep ?_) | refine gwll_rep ?_ | (rw [List.map_append]; refine gwll_append ?_ ?_) | refine gwll_append ?_ ?_ | (simp [cGTask, cI, cF, cGOp, cGEffect, cGCertificate, cN, take_len_map] <;> fail) | (rw [List.drop_zero, List.take_of_length_le] <;> first | rfl | (simp [cGTask, cI, cF, cGOp, cGEffect, cGCertificate, cN] <;> fail)) | (simp; omega) | (simp only [List.length_map, List.length_append, List.drop_zero, List.length_cons, List.length_nil, Nat.zero_add, Nat.add_zero] at *; omega))) : P := h
theorem ci_XDJn {p K : Prop} (k : K) (h : p := by first | rfl | exact ⟨rfl, rfl⟩ | exact BW.fr FrV.h | (refine BW.fr ?_; assumption) | (refine ⟨rfl, ?_⟩; (simp [cGTask, cI, cF, cGOp, cGEffect, cGCertificate, cN, take_len_map]; done)) | (refine RowK.same ?_ FrI.h; first | rfl | (simp [cGTask, cI, cF, cGOp, cGEffect, cGCertificate, cN, take_len_map]; done)) | (refine row_part1 ?_; (repeat (first | exact BWL.nil | exact bwll_nil | exact bw_c | exact BW.sl | exact BW.nil | exact bwll_same rfl FrI.h | refine BWL.cons ?_ ?_ | refine bwll_cons ?_ ?_ | (refine bw_own3 rfl rfl rfl FrI.h ?_ ?_ ?_) | exact BW.fr FrV.h | exact BW.fr (by assumption) | refine bw_agg ?_ | refine bw_clo ?_ | refine bw_ptr rfl rfl rfl ?_ | (refine bw_own rfl rfl rfl ?_ FrI.h ?_ ?_) | assumption | omega | rfl | (rw [List.length_map, ← List.length_append]; assumption) | (refine bwll_same ?_ FrI.h; (simp [cGTask, cI, cF, cGOp, cGEffect, cGCertificate, cN] <;> fail)) | (rw [List.map_set]; refine bwll_set (by first | rfl | omega | simp) ?_ ?_) | refine bwll_set (by first | rfl | omega | simp) ?_ ?_ | (rw [List.map_replicate]; refine bwll_rep ?_) | refine bwll_rep ?_ | (rw [List.map_append]; refine bwll_append ?_ ?_) | refine bwll_append ?_ ?_ | (simp [cGTask, cI, cF, cGOp, cGEffect, cGCertificate, cN, take_len_map] <;> fail) | (rw [List.drop_zero, List.take_of_length_le] <;> first | rfl | (simp [cGTask, cI, cF, cGOp, cGEffect, cGCertificate, cN] <;> fail)) | (simp; omega) | (simp only [List.length_map, List.length_append, List.drop_zero, List.length_cons, List.length_nil, Nat.zero_add, Nat.add_zero] at *; omega))); done) | ((repeat (first | exact BWL.nil | exact bwll_nil | exact bw_c | exact BW.sl | exact BW.nil | exact bwll_same rfl FrI.h | refine BWL.cons ?_ ?_ | refine bwll_cons ?_ ?_ | (refine bw_own3 rfl rfl rfl FrI.h ?_ ?_ ?_) | exact BW.fr FrV.h | exact BW.fr (by assumption) | refine bw_agg ?_ | refine bw_clo ?_ | refine bw_ptr rfl rfl rfl ?_ | (refine bw_own rfl rfl rfl ?_ FrI.h ?_ ?_) | assumption | omega | rfl | (rw [List.length_map, ← List.length_append]; assumption) | (refine bwll_same ?_ FrI.h; (simp [cGTask, cI, cF, cGOp, cGEffect, cGCertificate, cN] <;> fail)) | (rw [List.map_set]; refine bwll_set (by first | rfl | omega | simp) ?_ ?_) | refine bwll_set (by first | rfl | omega | simp) ?_ ?_ | (rw [List.map_replicate]; refine bwll_rep ?_) | refine bwll_rep ?_ | (rw [List.map_append]; refine bwll_append ?_ ?_) | refine bwll_append ?_ ?_ | (simp [cGTask, cI, cF, cGOp, cGEffect, cGCertificate, cN, take_len_map] <;> fail) | (rw [List.drop_zero, List.take_of_length_le] <;> first | rfl | (simp [cGTask, cI, cF, cGOp, cGEffect, cGCertificate, cN] <;> fail)) | (simp; omega) | (simp only [List.length_map, List.length_append, List.drop_zero, List.length_cons, List.length_nil, Nat.zero_add, Nat.add_zero] at *; omega))); done) | (simp [cGTask, cI, cF, cGOp, cGEffect, cGCertificate, cN, take_len_map]; done)) : p ∧ K := ⟨h, k⟩
theorem ca_XDJn {P : Prop} (h : P := by repeat (first | exact True.intro | refine ci_XDJn ?_)) : P := h
theorem pr_XDJn {p K : Prop} (k : K) (h : p := by first | assumption | exact Int.natCast_nonneg _ | exact Nat.le_refl _ | exact Nat.zero_le _ | omega | (simp; done) | (simp; omega)) : p ∧ K := ⟨h, k⟩
theorem pl_XDJn {p K : Prop} (k : K) (h : p := by first | rfl | exact List.length_map _ | (simp; done) | (simp; omega)) : p ∧ K := ⟨h, k⟩
theorem pe_XDJn {p K : Prop} (k : K) (h : p := by first | omega | (simp; omega) | (simp only [List.length_map, List.length_cons, List.length_nil, List.length_append]; omega) | (simp only [List.length_map, List.drop_zero, List.length_cons, List.length_nil, Nat.zero_add, Nat.add_zero] at *; omega)) : p ∧ K := ⟨h, k⟩
theorem dr_XDJn {b : Bool} {p K : Prop} (k : K) (h : b = true → p := by intro h; first | (cases h; done) | exact ⟨by kernel_rfl, by kernel_rfl⟩) : (b = true → p) ∧ K := ⟨h, k⟩
theorem cl_XDJn {C : Cx} {n : Nat} {o : Oper} {τ : Nat → AV} {η : Nat → Ent} {f : FuncId} {os : Array Operand} {ats : Array TypeId} {r : AV} {args : List AV} {K : Foot → Prop} (ho : o.op = .call ⟨.value (.func f), os, ats⟩) (hc : ACall C f args r) (k : K ⟨r, [], []⟩)
    (hd : InB n o.dst := by exact Nat.le_of_ble_eq_true rfl) (hargs : os.toList.map (evA τ) = args := by first | rfl | (simp [cGTask, cI, cF, cGOp, cGEffect, cGCertificate, cN]; done) | (repeat (first | exact rfl | refine cons_eq ?_ ?_ | exact sl_dt rfl))) (hfr : frs args := by repeat (first | exact trivial | exact fr1_eA _ | exact fr0_eA _ | exact fr1_fr (by assumption) | exact FrV.h | refine And.intro ?_ ?_)) (hr : fr1 r := by repeat (first | exact trivial | exact fr1_eA _ | exact fr0_eA _ | exact fr1_fr (by assumption) | exact FrV.h | refine And.intro ?_ ?_)) : ∃ f : Foot, LF C n o τ η f ∧ K f := ⟨_, lf_call ho hd hargs hc hfr hr, k⟩
theorem clg_XDJn {C : Cx} {n : Nat} {o : Oper} {τ : Nat → AV} {η : Nat → Ent} {f : FuncId} {os : Array Operand} {ats : Array TypeId} {r : AV} {xs ys : List AV} {bs bs' : List (Nat × Blk)} {ks : List Nat} {K : Foot → Prop} (ρ : List (Nat × Nat)) (fz : List Nat) (go nb : List (Nat × Ent)) (r' : AV) (ho : o.op = .call ⟨.value (.func f), os, ats⟩) (hargs : os.toList.map (evA τ) = xs)
    (hc : ACallG C f ys bs ks r bs') (k : K ⟨r', go ++ nb, []⟩) (hd : InB n o.dst := by exact Nat.le_of_ble_eq_true rfl) (hok : okC ρ fz bs ks bs' (idsE go) = true := by rfl) (hgo : allUs η go := by repeat (first | exact trivial | refine And.intro rfl ?_)) (hgl : ltUs n go := by repeat (first | exact trivial | refine And.intro (Nat.le_of_ble_eq_true rfl) ?_))
    (hw : GWL η (fE bs) (lk ρ) (fun i => inB fz i = true) (fun i => inB (keys bs) i = true) xs ys := by exact zg_XDJn) (hb : GBL η (fE bs) (lk ρ) (fun i => inB fz i = true) (fun i => inB (keys bs) i = true) bs := by exact zg_XDJn)
    (hr : GW (fE bs') (updAll η (go ++ nb)) (lk (backN ρ bs')) (fun _ => False) (fun i => inB (idsE nb) i = true) r r' := by exact zg_XDJn)
    (hnb : nbOk n η (updAll η (go ++ nb)) ρ ks (fE bs') (lk (backN ρ bs')) (fun i => inB (idsE nb) i = true) bs' nb := by repeat (first | exact True.intro | rfl | exact Nat.le_of_ble_eq_true rfl | exact gb_nil rfl rfl | exact gb_take rfl ⟨rfl, rfl, rfl⟩ List.map_take FrI.h | refine gb_some ⟨rfl, rfl, rfl⟩ ?_ | refine And.intro ?_ ?_ | refine gw_ren rfl rfl rfl rfl rfl ?_ | exact gw_oren rfl rfl rfl rfl rfl | exact gw_opren rfl rfl rfl rfl rfl | exact gw_onil rfl rfl | refine gw_pren rfl rfl rfl rfl rfl | exact gw_thaw rfl rfl rfl | refine gw_tup ?_ | refine gw_ifc ?_ | exact GWL.nil | exact gwll_nil | exact gw_c | exact GW.sl | exact GW.nil | exact gwll_same rfl FrI.h | refine GWL.cons ?_ ?_ | refine gwll_cons ?_ ?_ | (refine gw_own3 rfl rfl rfl FrI.h ?_ ?_ ?_) | exact GW.fr FrV.h | exact GW.fr (by assumption) | refine gw_agg ?_ | refine gw_clo ?_ | refine gw_ptr rfl rfl rfl ?_ | (refine gw_own rfl rfl rfl ?_ FrI.h ?_ ?_) | assumption | omega | rfl | (rw [List.length_map, ← List.length_append]; assumption) | (refine gwll_same ?_ FrI.h; (simp [cGTask, cI, cF, cGOp, cGEffect, cGCertificate, cN] <;> fail)) | (rw [List.map_set]; refine gwll_set (by first | rfl | omega | simp) ?_ ?_) | refine gwll_set (by first | rfl | omega | simp) ?_ ?_ | (rw [List.map_replicate]; refine gwll_rep ?_) | refine gwll_rep ?_ | (rw [List.map_append]; refine gwll_append ?_ ?_) | refine gwll_append ?_ ?_ | (simp [cGTask, cI, cF, cGOp, cGEffect, cGCertificate, cN, take_len_map] <;> fail) | (rw [List.drop_zero, List.take_of_length_le] <;> first | rfl | (simp [cGTask, cI, cF, cGOp, cGEffect, cGCertificate, cN] <;> fail)) | (simp; omega) | (simp only [List.length_map, List.length_append, List.drop_zero, List.length_cons, List.length_nil, Nat.zero_add, Nat.add_zero] at *; omega))) : ∃ f : Foot, LF C n o τ η f ∧ K f := ⟨_, lf_callG ρ fz go nb ho hd hargs hc hok hgo hgl hw hb hr hnb, k⟩
def M_l32_fit (a0 : GTask) : Option (Bool) :=
  ob1 (M_b_Tame a0) (fun z1 =>
   sel z1
    (sel (decide (((a0.Ops.map cGOp).length : Int) ≤ 10))
      (ob1 (M_b_Many a0.Vars 81) (fun z2 =>
        some (decide (z2 ≤ 81))))
      (some false))
    (some false))
theorem A_l32_fit (a0 : GTask) {r1 : Bool} (h : M_l32_fit a0 = some r1) : ACall cx 11 [.agg [.sl 1 (a0.Vars.map cI), .sl 1 (a0.Init.map cI), .sl 2 (a0.Goal.map cF), .sl 4 (a0.Ops.map cGOp)]] (.c (.bool r1)) := by
  refine aOf Tryz.func11 rfl (by decide) rfl (Nat.le_of_ble_eq_true rfl) ?_; intro _; unfold M_l32_fit at h; refine aSR ?_; intro _; refine dr_XDJn ?_; refine aSR ?_; intro _; obtain ⟨z1, u1, h⟩ := ob1_ok h; refine cl_XDJn rfl (A_b_Tame a0 u1) ?_; intro _; refine spl h (fun c2 h => ?_) (fun c2 h => ?_)
  · intro _; refine spl h (fun c3 h => ?_) (fun c3 h => ?_)
    · intro _; obtain ⟨z2, u4, h⟩ := ob1_ok h; refine cl_XDJn rfl (A_b_Many a0.Vars 81 u4) ?_; intro _; refine dr_XDJn ?_; refine aRt ?_; intro _; obtain rfl := inj1 h; exact ca_XDJn
    · intro _; refine dr_XDJn ?_; refine aRt ?_; intro _; obtain rfl := inj1 h; exact ca_XDJn
  · intro _; refine dr_XDJn ?_; refine aRt ?_; intro _; obtain rfl := inj1 h; exact ca_XDJn
def M_certify_copied_L1 (a0 : GCertificate) : Nat → Int → (List Nogood) → Option (GCertificate)
  | 0, _, _ => none
  | k9 + 1, v7, v8 =>
    sel (decide (v7 < ((a0.Nogoods.map cN).length : Int)))
     (ix a0.Nogoods v7 (fun y10 =>
       ob1 (M_cloneF y10.1) (fun z11 =>
        grd ((v8.length + 1) * 32 ≤ 140737488355328) (grd (z11.length ≤ 140737488355328) (M_certify_copied_L1 a0 k9 (IntKind.i64.wrap (v7 + 1)) (v8 ++ [(z11, y10.2)]))))))
     (grd (v8.length ≤ 140737488355328) (some ({ Bound := a0.Bound, Nogoods := v8 : GCertificate })))
def M_certify_copied (a0 : GCertificate) : Option (GCertificate) :=
  M_certify_copied_L1 a0 ((((a0.Nogoods.map cN).length : Int)).toNat + 1) 0 []
theorem A_certify_copied (a0 : GCertificate) {r1 : GCertificate} (h : M_certify_copied a0 = some r1) : ACallG cx 57 [.agg [.c (.int .i64 a0.Bound), .sl 2 (a0.Nogoods.map cN)]] [] [] (.agg [.c (.int .i64 r1.Bound), .own 0 0 0 r1.Nogoods.length]) [(0, ⟨40, 2, false, r1.Nogoods.map cN⟩)] := by
  refine acallg_of 30 Tryz.func57 rfl (by decide) rfl (Nat.le_of_ble_eq_true rfl) rfl rfl ?_; intro _; unfold M_certify_copied at h; refine aSR ?_; intro _; refine dr_XDJn ?_; refine aSR ?_; intro _; refine dr_XDJn ?_; refine aSq ?_; refine aSR ?_; intro _; refine dr_XDJn ?_; refine aBk ?_; refine awp_loop (α := Nat × Int × (List Nogood)) (fun x => mkG 29 30 [(2, .ptr 2 0 0 0), (3, .ptr 3 0 0 0), (10, .sl 2 (a0.Nogoods.map cN)), (11, .c (.int .i64 ((a0.Nogoods.map cN).length : Int))), (12, .c (.int .i64 x.2.1))] [(2, ⟨31, 2, true, [[.c (.int .i64 0), .c (.slice none 0 0)]]⟩), (3, ⟨31, 2, true, [[.c (.int .i64 a0.Bound), .own 25 0 0 x.2.2.length]]⟩), (25, ⟨40, 2, false, x.2.2.map cN⟩)]) (fun x => M_certify_copied_L1 a0 x.1 x.2.1 x.2.2 = some r1) (fun x => x.1) ((((a0.Nogoods.map cN).length : Int)).toNat + 1, 0, []) h ?_ ?_
  · exact ca_XDJn
  · intro x1 h; intro _; obtain ⟨k9, m2, h⟩ := succ_of (f := fun n => M_certify_copied_L1 a0 n x1.2.1 x1.2.2) rfl h; replace h : M_certify_copied_L1 a0 (k9 + 1) x1.2.1 x1.2.2 = some r1 := h; rw [M_certify_copied_L1] at h; refine aSR ?_; intro _; refine dr_XDJn ?_; refine aSq ?_; refine aCd ?_; intro _; refine spl h (fun c3 h => ?_) (fun c3 h => ?_)
    · refine aSk ?_; refine aSq ?_; refine aBk ?_; refine aSR ?_; intro _; obtain ⟨y10, w4, q5, h⟩ := ix_ok h; refine Exists.intro (cN y10) (And.intro (map_at' w4) ?_); intro _; refine pr_XDJn ?_; refine dr_XDJn ?_; refine aRg ?_; intro _; obtain ⟨z11, u6, h⟩ := ob1_ok h; refine clg_XDJn [(0, 20)] [] [] [(20, ⟨2, some ⟨68, 2, false, z11.map cF⟩⟩)] (.own 20 2 0 z11.length) rfl rfl (A_cloneF y10.1 u6) ?_; intro _; obtain ⟨q7, h⟩ := grd_ok h; refine pl_XDJn ?_; refine pl_XDJn ?_; refine And.intro (by first | with_reducible assumption | (show (x1.2.2.length + 1) * 32 ≤ 140737488355328; with_reducible assumption) | omega | (simp; omega)) ?_; refine pe_XDJn ?_; refine dr_XDJn ?_; refine aRg ?_; intro _; refine dr_XDJn ?_; obtain ⟨q8, h⟩ := grd_ok h; refine ⟨(k9, (IntKind.i64.wrap (x1.2.1 + 1)), (x1.2.2 ++ [(z11, y10.2)])), h, ltS m2, ?_⟩; exact ca_XDJn
    · refine aEx ?_; refine aSR ?_; intro _; refine dr_XDJn ?_; refine aRt ?_; obtain ⟨q9, h⟩ := grd_ok h; intro _; obtain rfl := inj1 h; all_goals (refine Exists.intro [(0, 25)] (And.intro rfl (And.intro ?_ ?_))); all_goals (exact zg_XDJn)
def M_certify_Join (a0 : GCertificate) (a1 : GCertificate) : Option (GCertificate × Er) :=
  ob1 (M_ce_Check a0) (fun z1 =>
   erM z1
    (ob1 (M_ce_Check a1) (fun z3 =>
      erM z3
       (sel (a0.Bound != a1.Bound)
         (some ({ Bound := 0, Nogoods := [] : GCertificate }, (Er.no 2)))
         (ob1 (M_certify_copied a0) (fun z5 =>
           ob1 (M_certify_copied a1) (fun z6 =>
            grd ((z5.Nogoods.length + z6.Nogoods.length) * 32 ≤ 140737488355328) (sel (decide ((((z5.Nogoods.length + (z6.Nogoods.map cN).length) : Nat) : Int) > 4096))
             (some ({ Bound := 0, Nogoods := [] : GCertificate }, (Er.no 5)))
             (grd ((z5.Nogoods.length + (z6.Nogoods.map cN).length) ≤ 140737488355328) (some ({ Bound := z5.Bound, Nogoods := (z5.Nogoods ++ z6.Nogoods) : GCertificate }, Er.nil))))))))
       (fun e4 => some ({ Bound := 0, Nogoods := [] : GCertificate }, (Er.no e4)))))
    (fun e2 => some ({ Bound := 0, Nogoods := [] : GCertificate }, (Er.no e2))))
theorem A_certify_Join (a0 : GCertificate) (a1 : GCertificate) {r1 : GCertificate} {r2 : Er} (h : M_certify_Join a0 a1 = some (r1, r2)) : ACall cx 27 [.agg [.c (.int .i64 a0.Bound), .sl 2 (a0.Nogoods.map cN)], .agg [.c (.int .i64 a1.Bound), .sl 2 (a1.Nogoods.map cN)]] (.tup [.agg [.c (.int .i64 r1.Bound), .sl 2 (r1.Nogoods.map cN)], eA r2]) := by
  refine aOf Tryz.func27 rfl (by decide) rfl (Nat.le_of_ble_eq_true rfl) ?_; intro _; unfold M_certify_Join at h; refine aSR ?_; intro _; refine dr_XDJn ?_; refine aSq ?_; refine aSR ?_; intro _; obtain ⟨z1, u1, h⟩ := ob1_ok h; refine cl_XDJn rfl (A_ce_Check a0 u1) ?_; intro _; refine dr_XDJn ?_; refine aSq ?_; rcases z1 with _ | e2
  · replace h := erM_nil h; refine aRg ?_; intro _; refine dr_XDJn ?_; refine aCd ?_; intro _; refine litF ?_; refine aSk ?_; refine aSq ?_; refine aSR ?_; intro _; obtain ⟨z3, u2, h⟩ := ob1_ok h; refine cl_XDJn rfl (A_ce_Check a1 u2) ?_; intro _; refine dr_XDJn ?_; refine aSq ?_; rcases z3 with _ | e4
    · replace h := erM_nil h; refine aRg ?_; intro _; refine dr_XDJn ?_; refine aCd ?_; intro _; refine litF ?_; refine aSk ?_; refine aSq ?_; refine aSR ?_; intro _; refine dr_XDJn ?_; refine aCd ?_; intro _; refine spl h (fun c3 h => ?_) (fun c3 h => ?_)
      · refine aSR ?_; intro _; refine dr_XDJn ?_; refine aRt ?_; intro _; obtain ⟨rfl, rfl⟩ := inj2 h; exact ca_XDJn
      · refine aSk ?_; refine aSR ?_; intro _; obtain ⟨z5, u4, h⟩ := ob1_ok h; refine clg_XDJn [(0, 29)] [] [] [(29, ⟨2, some ⟨40, 2, false, z5.Nogoods.map cN⟩⟩)] (.agg [.c (.int .i64 z5.Bound), .own 29 2 0 z5.Nogoods.length]) rfl rfl (A_certify_copied a0 u4) ?_; intro _; refine dr_XDJn ?_; refine aSR ?_; intro _; obtain ⟨z6, u5, h⟩ := ob1_ok h; refine clg_XDJn [(0, 33)] [] [] [(33, ⟨2, some ⟨40, 2, false, z6.Nogoods.map cN⟩⟩)] (.agg [.c (.int .i64 z6.Bound), .own 33 2 0 z6.Nogoods.length]) rfl rfl (A_certify_copied a1 u5) ?_; intro _; obtain ⟨q6, h⟩ := grd_ok h; refine pl_XDJn ?_; refine pl_XDJn ?_; refine And.intro (by first | with_reducible assumption | (show (z5.Nogoods.length + z6.Nogoods.length) * 32 ≤ 140737488355328; with_reducible assumption) | omega | (simp; omega)) ?_; refine pe_XDJn ?_; refine dr_XDJn ?_; refine aSq ?_; refine aSR ?_; intro _; refine dr_XDJn ?_; refine aCd ?_; intro _; refine spl h (fun c7 h => ?_) (fun c7 h => ?_)
        · refine aSR ?_; intro _; refine dr_XDJn ?_; refine aRt ?_; intro _; obtain ⟨rfl, rfl⟩ := inj2 h; exact ca_XDJn
        · refine aSk ?_; refine aSR ?_; intro _; refine dr_XDJn ?_; refine aRt ?_; obtain ⟨q8, h⟩ := grd_ok h; intro _; obtain ⟨rfl, rfl⟩ := inj2 h; exact ca_XDJn
    · replace h := erM_no h; refine aRg ?_; intro _; refine dr_XDJn ?_; refine aCd ?_; intro _; refine litT ?_; refine aSR ?_; intro _; refine dr_XDJn ?_; refine aRt ?_; intro _; obtain ⟨rfl, rfl⟩ := inj2 h; exact ca_XDJn
  · replace h := erM_no h; refine aRg ?_; intro _; refine dr_XDJn ?_; refine aCd ?_; intro _; refine litT ?_; refine aSR ?_; intro _; refine dr_XDJn ?_; refine aRt ?_; intro _; obtain ⟨rfl, rfl⟩ := inj2 h; exact ca_XDJn
def M_r06_Is_L1 (a0 : List Fact) : Nat → Int → Option (Bool)
  | 0, _ => none
  | k6 + 1, v5 =>
    sel (decide (v5 < ((a0.map cF).length : Int)))
     (ix a0 v5 (fun y7 =>
       sel (decide (y7.1 < 0))
        (some false)
        (sel (decide (y7.2 < 0))
          (some false)
          (sel (decide (v5 > 0))
            (ix a0 (IntKind.i64.wrap (v5 - 1)) (fun y8 =>
              sel (decide (y8.1 ≥ y7.1))
               (some false)
               (M_r06_Is_L1 a0 k6 (IntKind.i64.wrap (v5 + 1)))))
            (M_r06_Is_L1 a0 k6 (IntKind.i64.wrap (v5 + 1)))))))
     (some true)
def M_r06_Is (a0 : List Fact) : Option (Bool) :=
  M_r06_Is_L1 a0 ((((a0.map cF).length : Int)).toNat + 1) 0
theorem A_r06_Is (a0 : List Fact) {r1 : Bool} (h : M_r06_Is a0 = some r1) : ACall cx 86 [.sl 2 (a0.map cF)] (.c (.bool r1)) := by
  refine aOf Tryz.func86 rfl (by decide) rfl (Nat.le_of_ble_eq_true rfl) ?_; intro _; unfold M_r06_Is at h; refine aSR ?_; intro _; refine dr_XDJn ?_; refine aSq ?_; refine aSR ?_; intro _; refine dr_XDJn ?_; refine aBk ?_; refine awp_loop (α := Nat × Int) (fun x => mkS 36 [(0, .sl 2 (a0.map cF)), (5, .sl 2 (a0.map cF)), (6, .c (.int .i64 ((a0.map cF).length : Int))), (7, .c (.int .i64 x.2))] []) (fun x => M_r06_Is_L1 a0 x.1 x.2 = some r1) (fun x => x.1) ((((a0.map cF).length : Int)).toNat + 1, 0) h ?_ ?_
  · exact ca_XDJn
  · intro x1 h; intro _; obtain ⟨k6, m2, h⟩ := succ_of (f := fun n => M_r06_Is_L1 a0 n x1.2) rfl h; replace h : M_r06_Is_L1 a0 (k6 + 1) x1.2 = some r1 := h; rw [M_r06_Is_L1] at h; refine aSR ?_; intro _; refine dr_XDJn ?_; refine aSq ?_; refine aCd ?_; intro _; refine spl h (fun c3 h => ?_) (fun c3 h => ?_)
    · refine aSk ?_; refine aSq ?_; refine aBk ?_; refine aSR ?_; intro _; obtain ⟨y7, w4, q5, h⟩ := ix_ok h; refine Exists.intro (cF y7) (And.intro (map_at' w4) ?_); intro _; refine pr_XDJn ?_; refine dr_XDJn ?_; refine aSR ?_; intro _; refine spf h (fun c6 h => ?_) (fun c6 h => ?_)
      · intro _; refine spf h (fun c7 h => ?_) (fun c7 h => ?_)
        · intro _; refine spl h (fun c8 h => ?_) (fun c8 h => ?_)
          · intro _; obtain ⟨y8, w9, q10, h⟩ := ix_ok h; refine Exists.intro (cF y8) (And.intro (map_at' w9) ?_); intro _; refine pr_XDJn ?_; refine dr_XDJn ?_; refine aCd ?_; intro _; refine spl h (fun c11 h => ?_) (fun c11 h => ?_)
            · refine aSR ?_; intro _; refine dr_XDJn ?_; refine aRt ?_; intro _; obtain rfl := inj1 h; exact ca_XDJn
            · refine aSk ?_; refine aRg ?_; intro _; refine dr_XDJn ?_; refine ⟨(k6, (IntKind.i64.wrap (x1.2 + 1))), h, ltS m2, ?_⟩; exact ca_XDJn
          · intro _; refine dr_XDJn ?_; refine aCd ?_; intro _; refine litF ?_; refine aSk ?_; refine aRg ?_; intro _; refine dr_XDJn ?_; refine ⟨(k6, (IntKind.i64.wrap (x1.2 + 1))), h, ltS m2, ?_⟩; exact ca_XDJn
        · intro _; refine dr_XDJn ?_; refine aCd ?_; intro _; refine litT ?_; refine aSR ?_; intro _; refine dr_XDJn ?_; refine aRt ?_; intro _; obtain rfl := inj1 h; exact ca_XDJn
      · intro _; refine dr_XDJn ?_; refine aCd ?_; intro _; refine litT ?_; refine aSR ?_; intro _; refine dr_XDJn ?_; refine aRt ?_; intro _; obtain rfl := inj1 h; exact ca_XDJn
    · refine aEx ?_; refine aSR ?_; intro _; refine dr_XDJn ?_; refine aRt ?_; intro _; obtain rfl := inj1 h; exact ca_XDJn
def M_r30_Check_L1 (y111 : Nogood) : Nat → Int → Option (Unit ⊕ Int)
  | 0, _ => none
  | k117 + 1, v116 =>
    sel (decide (v116 < ((y111.1.map cF).length : Int)))
     (ix y111.1 v116 (fun y118 =>
       sel (decide (y118.1 ≥ 64))
        (some (.inr 2))
        (sel (decide (y118.2 ≥ 64))
          (some (.inr 2))
          (M_r30_Check_L1 y111 k117 (IntKind.i64.wrap (v116 + 1))))))
     (some (.inl ()))
def M_r30_Check_L2 (a0 : GCertificate) : Nat → Int → Option (Unit ⊕ Int)
  | 0, _ => none
  | k100 + 1, v99 =>
    sel (decide (v99 < ((a0.Nogoods.map cN).length : Int)))
     (ob1 (ix a0.Nogoods v99 (fun y111 =>
        ob1 (M_r06_Is y111.1) (fun z112 =>
         sel (!z112)
          (some (.inr 2))
          (M_r30_Check_L1 y111 ((((y111.1.map cF).length : Int)).toNat + 1) 0))) : Option (Unit ⊕ Int))
       (osum
       (fun _ => M_r30_Check_L2 a0 k100 (IntKind.i64.wrap (v99 + 1)))
       (fun r109 => some (.inr r109))))
     (some (.inl ()))
def M_r30_Check_L3 (a0 : GCertificate) : Nat → Int → Option (Int)
  | 0, _ => none
  | k123 + 1, v122 =>
    sel (decide (v122 < ((a0.Nogoods.map cN).length : Int)))
     (ix a0.Nogoods v122 (fun y124 =>
       sel (decide (y124.2 < 0))
        (some 1)
        (sel (decide (a0.Bound ≥ 0))
          (sel (decide (y124.2 ≥ a0.Bound))
            (some 1)
            (sel (decide (a0.Bound < 0))
              (sel (y124.2 != 0)
                (some 1)
                (M_r30_Check_L3 a0 k123 (IntKind.i64.wrap (v122 + 1))))
              (M_r30_Check_L3 a0 k123 (IntKind.i64.wrap (v122 + 1)))))
          (sel (decide (a0.Bound < 0))
            (sel (y124.2 != 0)
              (some 1)
              (M_r30_Check_L3 a0 k123 (IntKind.i64.wrap (v122 + 1))))
            (M_r30_Check_L3 a0 k123 (IntKind.i64.wrap (v122 + 1)))))))
     (some 0)
def M_r30_Check (a0 : GCertificate) : Option (Int) :=
  ob1 (sel (decide (a0.Bound < (-1)))
    (some (.inr 1))
    (sel (decide (a0.Bound > 1099511627776))
      (some (.inr 1))
      (some (.inl ()))) : Option (Unit ⊕ Int))
   (osum
   (fun _ => sel (decide (((a0.Nogoods.map cN).length : Int) > 4096))
      (some 5)
      (ob1 (M_r30_Check_L2 a0 ((((a0.Nogoods.map cN).length : Int)).toNat + 1) 0 : Option (Unit ⊕ Int))
        (osum
        (fun _ => M_r30_Check_L3 a0 ((((a0.Nogoods.map cN).length : Int)).toNat + 1) 0)
        (fun r60 => some r60))))
   (fun r1 => some r1))
theorem A_r30_Check (a0 : GCertificate) {r1 : Int} (h : M_r30_Check a0 = some r1) : ACall cx 58 [.agg [.c (.int .i64 a0.Bound), .sl 2 (a0.Nogoods.map cN)]] (.c (.int .i64 r1)) := by
  refine aOf Tryz.func58 rfl (by decide) rfl (Nat.le_of_ble_eq_true rfl) ?_; intro _; unfold M_r30_Check at h; refine aSR ?_; intro _; refine dr_XDJn ?_; obtain ⟨o1, h, hK2⟩ := ob1_ok h; refine awp_cut (α := Unit) (fun _ => mkS 82 [(1, .ptr 1 0 0 0)] [(1, ⟨31, 2, true, [[.c (.int .i64 a0.Bound), .sl 2 (a0.Nogoods.map cN)]]⟩)]) (fun v => o1 = (.inl v)) ?_ ?_
  · refine aSR ?_; intro _; refine spf h (fun c3 h => ?_) (fun c3 h => ?_)
    · intro _; refine dr_XDJn ?_; refine aCd ?_; intro _; refine spl h (fun c4 h => ?_) (fun c4 h => ?_)
      · refine aSR ?_; intro _; refine dr_XDJn ?_; refine aRt ?_; have j5 := Option.some.inj h; subst j5; replace h := (osum_r hK2); intro _; obtain rfl := inj1 h; exact ca_XDJn
      · refine aSk ?_; refine ⟨(), (Option.some.inj h).symm, ?_⟩; exact ca_XDJn
    · intro _; refine dr_XDJn ?_; refine aCd ?_; intro _; refine litT ?_; refine aSR ?_; intro _; refine dr_XDJn ?_; refine aRt ?_; have j6 := Option.some.inj h; subst j6; replace h := (osum_r hK2); intro _; obtain rfl := inj1 h; exact ca_XDJn
  · rintro _ ho; have ho := ho.symm; subst ho; intro _; replace h := (osum_l hK2); refine aSq ?_; refine aSR ?_; intro _; refine dr_XDJn ?_; refine aCd ?_; intro _; refine spl h (fun c7 h => ?_) (fun c7 h => ?_)
    · refine aSR ?_; intro _; refine dr_XDJn ?_; refine aRt ?_; intro _; obtain rfl := inj1 h; exact ca_XDJn
    · refine aSk ?_; obtain ⟨o8, h, hK9⟩ := ob1_ok h; refine awp_cut (α := Unit) (fun _ => mkS 82 [(1, .ptr 1 0 0 0)] [(1, ⟨31, 2, true, [[.c (.int .i64 a0.Bound), .sl 2 (a0.Nogoods.map cN)]]⟩)]) (fun v => o8 = (.inl v)) ?_ ?_
      · refine aSR ?_; intro _; refine dr_XDJn ?_; refine aBk ?_; refine awp_loop (α := Nat × Int) (fun x => mkS 82 [(1, .ptr 1 0 0 0), (22, .sl 2 (a0.Nogoods.map cN)), (23, .c (.int .i64 ((a0.Nogoods.map cN).length : Int))), (24, .c (.int .i64 x.2))] [(1, ⟨31, 2, true, [[.c (.int .i64 a0.Bound), .sl 2 (a0.Nogoods.map cN)]]⟩)]) (fun x => M_r30_Check_L2 a0 x.1 x.2 = some o8) (fun x => x.1) ((((a0.Nogoods.map cN).length : Int)).toNat + 1, 0) h ?_ ?_
        · exact ca_XDJn
        · intro x10 h; intro _; obtain ⟨k100, m11, h⟩ := succ_of (f := fun n => M_r30_Check_L2 a0 n x10.2) rfl h; replace h : M_r30_Check_L2 a0 (k100 + 1) x10.2 = some o8 := h; rw [M_r30_Check_L2] at h; refine aSR ?_; intro _; refine dr_XDJn ?_; refine aSq ?_; refine aCd ?_; intro _; refine spl h (fun c12 h => ?_) (fun c12 h => ?_)
          · refine aSk ?_; obtain ⟨o13, h, hK14⟩ := ob1_ok h; refine awp_cut (α := Unit) (fun _ => mkS 82 [(1, .ptr 1 0 0 0), (22, .sl 2 (a0.Nogoods.map cN)), (23, .c (.int .i64 ((a0.Nogoods.map cN).length : Int))), (24, .c (.int .i64 x10.2))] [(1, ⟨31, 2, true, [[.c (.int .i64 a0.Bound), .sl 2 (a0.Nogoods.map cN)]]⟩)]) (fun v => o13 = (.inl v)) ?_ ?_
            · refine aBk ?_; refine aSR ?_; intro _; obtain ⟨y111, w15, q16, h⟩ := ix_ok h; refine Exists.intro (cN y111) (And.intro (map_at' w15) ?_); intro _; refine pr_XDJn ?_; refine dr_XDJn ?_; refine aSq ?_; refine aSR ?_; intro _; obtain ⟨z112, u17, h⟩ := ob1_ok h; refine cl_XDJn rfl (A_r06_Is y111.1 u17) ?_; intro _; refine dr_XDJn ?_; refine aCd ?_; intro _; refine spl h (fun c18 h => ?_) (fun c18 h => ?_)
              · refine aSR ?_; intro _; refine dr_XDJn ?_; refine aRt ?_; have j19 := Option.some.inj h; subst j19; replace h := (osum_r hK14); have j20 := Option.some.inj h; subst j20; replace h := (osum_r hK9); intro _; obtain rfl := inj1 h; exact ca_XDJn
              · refine aSk ?_; refine aSR ?_; intro _; refine dr_XDJn ?_; refine aBk ?_; refine awp_loop (α := Nat × Int) (fun x => mkS 82 [(1, .ptr 1 0 0 0), (22, .sl 2 (a0.Nogoods.map cN)), (23, .c (.int .i64 ((a0.Nogoods.map cN).length : Int))), (24, .c (.int .i64 x10.2)), (33, .sl 2 (y111.1.map cF)), (34, .c (.int .i64 ((y111.1.map cF).length : Int))), (35, .c (.int .i64 x.2))] [(1, ⟨31, 2, true, [[.c (.int .i64 a0.Bound), .sl 2 (a0.Nogoods.map cN)]]⟩)]) (fun x => M_r30_Check_L1 y111 x.1 x.2 = some o13) (fun x => x.1) ((((y111.1.map cF).length : Int)).toNat + 1, 0) h ?_ ?_
                · exact ca_XDJn
                · intro x21 h; intro _; obtain ⟨k117, m22, h⟩ := succ_of (f := fun n => M_r30_Check_L1 y111 n x21.2) rfl h; replace h : M_r30_Check_L1 y111 (k117 + 1) x21.2 = some o13 := h; rw [M_r30_Check_L1] at h; refine aSR ?_; intro _; refine dr_XDJn ?_; refine aSq ?_; refine aCd ?_; intro _; refine spl h (fun c23 h => ?_) (fun c23 h => ?_)
                  · refine aSk ?_; refine aSq ?_; refine aBk ?_; refine aSR ?_; intro _; obtain ⟨y118, w24, q25, h⟩ := ix_ok h; refine Exists.intro (cF y118) (And.intro (map_at' w24) ?_); intro _; refine pr_XDJn ?_; refine dr_XDJn ?_; refine aSR ?_; intro _; refine spf h (fun c26 h => ?_) (fun c26 h => ?_)
                    · intro _; refine dr_XDJn ?_; refine aCd ?_; intro _; refine spl h (fun c27 h => ?_) (fun c27 h => ?_)
                      · refine aSR ?_; intro _; refine dr_XDJn ?_; refine aRt ?_; have j28 := Option.some.inj h; subst j28; replace h := (osum_r hK14); have j29 := Option.some.inj h; subst j29; replace h := (osum_r hK9); intro _; obtain rfl := inj1 h; exact ca_XDJn
                      · refine aSk ?_; refine aRg ?_; intro _; refine dr_XDJn ?_; refine ⟨(k117, (IntKind.i64.wrap (x21.2 + 1))), h, ltS m22, ?_⟩; exact ca_XDJn
                    · intro _; refine dr_XDJn ?_; refine aCd ?_; intro _; refine litT ?_; refine aSR ?_; intro _; refine dr_XDJn ?_; refine aRt ?_; have j30 := Option.some.inj h; subst j30; replace h := (osum_r hK14); have j31 := Option.some.inj h; subst j31; replace h := (osum_r hK9); intro _; obtain rfl := inj1 h; exact ca_XDJn
                  · refine aEx ?_; refine ⟨(), (Option.some.inj h).symm, ?_⟩; exact ca_XDJn
            · rintro _ ho; have ho := ho.symm; subst ho; intro _; replace h := (osum_l hK14); refine aRg ?_; intro _; refine dr_XDJn ?_; refine ⟨(k100, (IntKind.i64.wrap (x10.2 + 1))), h, ltS m11, ?_⟩; exact ca_XDJn
          · refine aEx ?_; refine ⟨(), (Option.some.inj h).symm, ?_⟩; exact ca_XDJn
      · rintro _ ho; have ho := ho.symm; subst ho; intro _; replace h := (osum_l hK9); refine aSq ?_; refine aSR ?_; intro _; refine dr_XDJn ?_; refine aBk ?_; refine awp_loop (α := Nat × Int) (fun x => mkS 82 [(1, .ptr 1 0 0 0), (50, .sl 2 (a0.Nogoods.map cN)), (51, .c (.int .i64 ((a0.Nogoods.map cN).length : Int))), (52, .c (.int .i64 x.2))] [(1, ⟨31, 2, true, [[.c (.int .i64 a0.Bound), .sl 2 (a0.Nogoods.map cN)]]⟩)]) (fun x => M_r30_Check_L3 a0 x.1 x.2 = some r1) (fun x => x.1) ((((a0.Nogoods.map cN).length : Int)).toNat + 1, 0) h ?_ ?_
        · exact ca_XDJn
        · intro x32 h; intro _; obtain ⟨k123, m33, h⟩ := succ_of (f := fun n => M_r30_Check_L3 a0 n x32.2) rfl h; replace h : M_r30_Check_L3 a0 (k123 + 1) x32.2 = some r1 := h; rw [M_r30_Check_L3] at h; refine aSR ?_; intro _; refine dr_XDJn ?_; refine aSq ?_; refine aCd ?_; intro _; refine spl h (fun c34 h => ?_) (fun c34 h => ?_)
          · refine aSk ?_; refine aSq ?_; refine aBk ?_; refine aSR ?_; intro _; obtain ⟨y124, w35, q36, h⟩ := ix_ok h; refine Exists.intro (cN y124) (And.intro (map_at' w35) ?_); intro _; refine pr_XDJn ?_; refine dr_XDJn ?_; refine aSR ?_; intro _; refine spf h (fun c37 h => ?_) (fun c37 h => ?_)
            · intro _; refine spl h (fun c38 h => ?_) (fun c38 h => ?_)
              · intro _; refine spf h (fun c39 h => ?_) (fun c39 h => ?_)
                · intro _; refine spl h (fun c40 h => ?_) (fun c40 h => ?_)
                  · intro _; refine dr_XDJn ?_; refine aCd ?_; intro _; refine spl h (fun c41 h => ?_) (fun c41 h => ?_)
                    · refine aSR ?_; intro _; refine dr_XDJn ?_; refine aRt ?_; intro _; obtain rfl := inj1 h; exact ca_XDJn
                    · refine aSk ?_; refine aRg ?_; intro _; refine dr_XDJn ?_; refine ⟨(k123, (IntKind.i64.wrap (x32.2 + 1))), h, ltS m33, ?_⟩; exact ca_XDJn
                  · intro _; refine dr_XDJn ?_; refine aCd ?_; intro _; refine litF ?_; refine aSk ?_; refine aRg ?_; intro _; refine dr_XDJn ?_; refine ⟨(k123, (IntKind.i64.wrap (x32.2 + 1))), h, ltS m33, ?_⟩; exact ca_XDJn
                · intro _; refine dr_XDJn ?_; refine aCd ?_; intro _; refine litT ?_; refine aSR ?_; intro _; refine dr_XDJn ?_; refine aRt ?_; intro _; obtain rfl := inj1 h; exact ca_XDJn
              · intro _; refine spl h (fun c42 h => ?_) (fun c42 h => ?_)
                · intro _; refine dr_XDJn ?_; refine aCd ?_; intro _; refine spl h (fun c43 h => ?_) (fun c43 h => ?_)
                  · refine aSR ?_; intro _; refine dr_XDJn ?_; refine aRt ?_; intro _; obtain rfl := inj1 h; exact ca_XDJn
                  · refine aSk ?_; refine aRg ?_; intro _; refine dr_XDJn ?_; refine ⟨(k123, (IntKind.i64.wrap (x32.2 + 1))), h, ltS m33, ?_⟩; exact ca_XDJn
                · intro _; refine dr_XDJn ?_; refine aCd ?_; intro _; refine litF ?_; refine aSk ?_; refine aRg ?_; intro _; refine dr_XDJn ?_; refine ⟨(k123, (IntKind.i64.wrap (x32.2 + 1))), h, ltS m33, ?_⟩; exact ca_XDJn
            · intro _; refine dr_XDJn ?_; refine aCd ?_; intro _; refine litT ?_; refine aSR ?_; intro _; refine dr_XDJn ?_; refine aRt ?_; intro _; obtain rfl := inj1 h; exact ca_XDJn
          · refine aEx ?_; refine aSR ?_; intro _; refine dr_XDJn ?_; refine aRt ?_; intro _; obtain rfl := inj1 h; exact ca_XDJn
def M_r32_Join (a0 : GCertificate) (a1 : GCertificate) : Option (GCertificate × Int) :=
  ob1 (M_r30_Check a0) (fun z1 =>
   sel (z1 != 0)
    (some ({ Bound := 0, Nogoods := [] : GCertificate }, z1))
    (ob1 (M_r30_Check a1) (fun z2 =>
      sel (z2 != 0)
       (some ({ Bound := 0, Nogoods := [] : GCertificate }, z2))
       (sel (a0.Bound != a1.Bound)
         (some ({ Bound := 0, Nogoods := [] : GCertificate }, 2))
         (sel (decide ((IntKind.i64.wrap (((a0.Nogoods.map cN).length : Int) + ((a1.Nogoods.map cN).length : Int))) > 4096))
           (some ({ Bound := 0, Nogoods := [] : GCertificate }, 5))
           (grd ((0 + a0.Nogoods.length) * 32 ≤ 140737488355328) (grd ((a0.Nogoods.length + a1.Nogoods.length) * 32 ≤ 140737488355328) (grd ((a0.Nogoods ++ a1.Nogoods).length ≤ 140737488355328) (some ({ Bound := a0.Bound, Nogoods := (a0.Nogoods ++ a1.Nogoods) : GCertificate }, 0))))))))))
theorem A_r32_Join (a0 : GCertificate) (a1 : GCertificate) {r1 : GCertificate} {r2 : Int} (h : M_r32_Join a0 a1 = some (r1, r2)) : ACall cx 28 [.agg [.c (.int .i64 a0.Bound), .sl 2 (a0.Nogoods.map cN)], .agg [.c (.int .i64 a1.Bound), .sl 2 (a1.Nogoods.map cN)]] (.tup [.agg [.c (.int .i64 r1.Bound), .sl 2 (r1.Nogoods.map cN)], .c (.int .i64 r2)]) := by
  refine aOf Tryz.func28 rfl (by decide) rfl (Nat.le_of_ble_eq_true rfl) ?_; intro _; unfold M_r32_Join at h; refine aSR ?_; intro _; refine dr_XDJn ?_; refine aSq ?_; refine aSR ?_; intro _; obtain ⟨z1, u1, h⟩ := ob1_ok h; refine cl_XDJn rfl (A_r30_Check a0 u1) ?_; intro _; refine dr_XDJn ?_; refine aSR ?_; intro _; refine dr_XDJn ?_; refine aCd ?_; intro _; refine spl h (fun c2 h => ?_) (fun c2 h => ?_)
  · refine aSR ?_; intro _; refine dr_XDJn ?_; refine aRt ?_; intro _; obtain ⟨rfl, rfl⟩ := inj2 h; exact ca_XDJn
  · refine aSk ?_; refine aSq ?_; refine aSR ?_; intro _; obtain ⟨z2, u3, h⟩ := ob1_ok h; refine cl_XDJn rfl (A_r30_Check a1 u3) ?_; intro _; refine dr_XDJn ?_; refine aSR ?_; intro _; refine dr_XDJn ?_; refine aCd ?_; intro _; refine spl h (fun c4 h => ?_) (fun c4 h => ?_)
    · refine aSR ?_; intro _; refine dr_XDJn ?_; refine aRt ?_; intro _; obtain ⟨rfl, rfl⟩ := inj2 h; exact ca_XDJn
    · refine aSk ?_; refine aSq ?_; refine aSR ?_; intro _; refine dr_XDJn ?_; refine aCd ?_; intro _; refine spl h (fun c5 h => ?_) (fun c5 h => ?_)
      · refine aSR ?_; intro _; refine dr_XDJn ?_; refine aRt ?_; intro _; obtain ⟨rfl, rfl⟩ := inj2 h; exact ca_XDJn
      · refine aSk ?_; refine aSq ?_; refine aSR ?_; intro _; refine dr_XDJn ?_; refine aCd ?_; intro _; refine spl h (fun c6 h => ?_) (fun c6 h => ?_)
        · refine aSR ?_; intro _; refine dr_XDJn ?_; refine aRt ?_; intro _; obtain ⟨rfl, rfl⟩ := inj2 h; exact ca_XDJn
        · refine aSk ?_; refine aSR ?_; intro _; obtain ⟨q7, h⟩ := grd_ok h; obtain ⟨q8, h⟩ := grd_ok h; refine pl_XDJn ?_; refine And.intro (by first | with_reducible assumption | (show (0 + a0.Nogoods.length) * 32 ≤ 140737488355328; with_reducible assumption) | omega | (simp; omega)) ?_; refine pe_XDJn ?_; refine pl_XDJn ?_; refine And.intro (by first | with_reducible assumption | (show (a0.Nogoods.length + a1.Nogoods.length) * 32 ≤ 140737488355328; with_reducible assumption) | omega | (simp; omega)) ?_; refine pe_XDJn ?_; refine dr_XDJn ?_; refine aRt ?_; obtain ⟨q9, h⟩ := grd_ok h; intro _; obtain ⟨rfl, rfl⟩ := inj2 h; exact ca_XDJn
def M_l30_Same_L1 (a0 : GCertificate) (a1 : GCertificate) : Nat → Int → Option (Bool)
  | 0, _ => none
  | k15 + 1, v14 =>
    sel (decide (v14 < ((a0.Nogoods.map cN).length : Int)))
     (ix a0.Nogoods v14 (fun y16 =>
       ix a1.Nogoods v14 (fun y17 =>
        sel (y16.2 != y17.2)
         (some false)
         (ix a0.Nogoods v14 (fun y18 =>
           ix a1.Nogoods v14 (fun y19 =>
            ob1 (M_b_Facts y18.1 y19.1) (fun z20 =>
             sel (!z20)
              (some false)
              (M_l30_Same_L1 a0 a1 k15 (IntKind.i64.wrap (v14 + 1))))))))))
     (some true)
def M_l30_Same (a0 : GCertificate) (a1 : GCertificate) : Option (Bool) :=
  ob1 (sel (a0.Bound != a1.Bound)
    (some (.inr false))
    (sel (((a0.Nogoods.map cN).length : Int) != ((a1.Nogoods.map cN).length : Int))
      (some (.inr false))
      (some (.inl ()))) : Option (Unit ⊕ Bool))
   (osum
   (fun _ => M_l30_Same_L1 a0 a1 ((((a0.Nogoods.map cN).length : Int)).toNat + 1) 0)
   (fun r1 => some r1))
theorem A_l30_Same (a0 : GCertificate) (a1 : GCertificate) {r1 : Bool} (h : M_l30_Same a0 a1 = some r1) : ACall cx 24 [.agg [.c (.int .i64 a0.Bound), .sl 2 (a0.Nogoods.map cN)], .agg [.c (.int .i64 a1.Bound), .sl 2 (a1.Nogoods.map cN)]] (.c (.bool r1)) := by
  refine aOf Tryz.func24 rfl (by decide) rfl (Nat.le_of_ble_eq_true rfl) ?_; intro _; unfold M_l30_Same at h; refine aSR ?_; intro _; refine dr_XDJn ?_; obtain ⟨o1, h, hK2⟩ := ob1_ok h; refine awp_cut (α := Unit) (fun _ => mkS 56 [(2, .ptr 2 0 0 0), (3, .ptr 3 0 0 0)] [(2, ⟨31, 2, true, [[.c (.int .i64 a0.Bound), .sl 2 (a0.Nogoods.map cN)]]⟩), (3, ⟨31, 2, true, [[.c (.int .i64 a1.Bound), .sl 2 (a1.Nogoods.map cN)]]⟩)]) (fun v => o1 = (.inl v)) ?_ ?_
  · refine aSR ?_; intro _; refine spf h (fun c3 h => ?_) (fun c3 h => ?_)
    · intro _; refine dr_XDJn ?_; refine aCd ?_; intro _; refine spl h (fun c4 h => ?_) (fun c4 h => ?_)
      · refine aSR ?_; intro _; refine dr_XDJn ?_; refine aRt ?_; have j5 := Option.some.inj h; subst j5; replace h := (osum_r hK2); intro _; obtain rfl := inj1 h; exact ca_XDJn
      · refine aSk ?_; refine ⟨(), (Option.some.inj h).symm, ?_⟩; exact ca_XDJn
    · intro _; refine dr_XDJn ?_; refine aCd ?_; intro _; refine litT ?_; refine aSR ?_; intro _; refine dr_XDJn ?_; refine aRt ?_; have j6 := Option.some.inj h; subst j6; replace h := (osum_r hK2); intro _; obtain rfl := inj1 h; exact ca_XDJn
  · rintro _ ho; have ho := ho.symm; subst ho; intro _; replace h := (osum_l hK2); refine aSq ?_; refine aSR ?_; intro _; refine dr_XDJn ?_; refine aBk ?_; refine awp_loop (α := Nat × Int) (fun x => mkS 56 [(2, .ptr 2 0 0 0), (3, .ptr 3 0 0 0), (22, .c (.int .i64 ((a0.Nogoods.map cN).length : Int))), (23, .c (.int .i64 x.2))] [(2, ⟨31, 2, true, [[.c (.int .i64 a0.Bound), .sl 2 (a0.Nogoods.map cN)]]⟩), (3, ⟨31, 2, true, [[.c (.int .i64 a1.Bound), .sl 2 (a1.Nogoods.map cN)]]⟩)]) (fun x => M_l30_Same_L1 a0 a1 x.1 x.2 = some r1) (fun x => x.1) ((((a0.Nogoods.map cN).length : Int)).toNat + 1, 0) h ?_ ?_
    · exact ca_XDJn
    · intro x7 h; intro _; obtain ⟨k15, m8, h⟩ := succ_of (f := fun n => M_l30_Same_L1 a0 a1 n x7.2) rfl h; replace h : M_l30_Same_L1 a0 a1 (k15 + 1) x7.2 = some r1 := h; rw [M_l30_Same_L1] at h; refine aSR ?_; intro _; refine dr_XDJn ?_; refine aSq ?_; refine aCd ?_; intro _; refine spl h (fun c9 h => ?_) (fun c9 h => ?_)
      · refine aSk ?_; refine aSq ?_; refine aBk ?_; refine aSR ?_; intro _; refine dr_XDJn ?_; refine aSR ?_; intro _; obtain ⟨y16, w10, q11, h⟩ := ix_ok h; refine Exists.intro (cN y16) (And.intro (map_at' w10) ?_); intro _; obtain ⟨y17, w12, q13, h⟩ := ix_ok h; refine Exists.intro (cN y17) (And.intro (map_at' w12) ?_); intro _; refine spf h (fun c14 h => ?_) (fun c14 h => ?_)
        · intro _; obtain ⟨y18, w15, q16, h⟩ := ix_ok h; refine Exists.intro (cN y18) (And.intro (map_at' w15) ?_); intro _; obtain ⟨y19, w17, q18, h⟩ := ix_ok h; refine Exists.intro (cN y19) (And.intro (map_at' w17) ?_); intro _; obtain ⟨z20, u19, h⟩ := ob1_ok h; refine cl_XDJn rfl (A_b_Facts y18.1 y19.1 u19) ?_; intro _; refine pr_XDJn ?_; refine pr_XDJn ?_; refine pr_XDJn ?_; refine pr_XDJn ?_; refine dr_XDJn ?_; refine aCd ?_; intro _; refine spl h (fun c20 h => ?_) (fun c20 h => ?_)
          · refine aSR ?_; intro _; refine dr_XDJn ?_; refine aRt ?_; intro _; obtain rfl := inj1 h; exact ca_XDJn
          · refine aSk ?_; refine aRg ?_; intro _; refine dr_XDJn ?_; refine ⟨(k15, (IntKind.i64.wrap (x7.2 + 1))), h, ltS m8, ?_⟩; exact ca_XDJn
        · intro _; refine pr_XDJn ?_; refine pr_XDJn ?_; refine dr_XDJn ?_; refine aCd ?_; intro _; refine litT ?_; refine aSR ?_; intro _; refine dr_XDJn ?_; refine aRt ?_; intro _; obtain rfl := inj1 h; exact ca_XDJn
      · refine aEx ?_; refine aSR ?_; intro _; refine dr_XDJn ?_; refine aRt ?_; intro _; obtain rfl := inj1 h; exact ca_XDJn
def M_l32_CertifyJoins (g : Nat) (a0 : GTask) (a1 : GCertificate) (a2 : GCertificate) : Option (Bool) :=
  ob1 (ob1 (M_l32_fit a0) (fun z9 =>
    sel (!z9)
     (ob1 (M_l32_awake g) (fun z14 =>
       some (.inr z14)))
     (sel (decide (((a0.Ops.map cGOp).length : Int) > 6))
       (ob1 (M_l32_awake g) (fun z13 =>
         some (.inr z13)))
       (sel (decide ((IntKind.i64.wrap (((a1.Nogoods.map cN).length : Int) + ((a2.Nogoods.map cN).length : Int))) > 20))
         (ob1 (M_l32_awake g) (fun z12 =>
           some (.inr z12)))
         (ob1 (M_l32_awake g) (fun z10 =>
           sel (!z10)
            (ob1 (M_l32_awake g) (fun z11 =>
              some (.inr z11)))
            (some (.inl ()))))))) : Option (Unit ⊕ Bool))
   (osum
   (fun _ => ob2 (M_certify_Join a1 a2) (fun z15 z16 =>
      ob2 (M_r32_Join a1 a2) (fun z17 z18 =>
       ob1 (ob1 (M_b_Num z16) (fun z23 =>
         sel (z23 != z18)
          (some (.inr false))
          (ob1 (M_l30_Same z15 z17) (fun z24 =>
            sel (!z24)
             (some (.inr false))
             (some (.inl ()))))) : Option (Unit ⊕ Bool))
        (osum
        (fun _ => erM z16
           (ob1 (M_checker_Verify g a0 a1 20000) (fun z26 =>
             erM z26
              (ob1 (M_checker_Verify g a0 a2 20000) (fun z28 =>
                erM z28
                 (ob1 (M_checker_Verify g a0 z15 1048576) (fun z30 =>
                   erM z30
                    (some true)
                    (fun e31 => ob1 (M_b_Is (Er.no e31) 10) (fun z32 =>
                      some z32))))
                 (fun _ => some true)))
              (fun _ => some true)))
           (fun _ => some true))
        (fun r21 => some r21)))))
   (fun r7 => some r7))
theorem A_l32_CertifyJoins (g : Nat) (a0 : GTask) (a1 : GCertificate) (a2 : GCertificate) {r1 : Bool} (h : M_l32_CertifyJoins g a0 a1 a2 = some r1) : ACall cx 7 [.agg [.sl 1 (a0.Vars.map cI), .sl 1 (a0.Init.map cI), .sl 2 (a0.Goal.map cF), .sl 4 (a0.Ops.map cGOp)], .agg [.c (.int .i64 a1.Bound), .sl 2 (a1.Nogoods.map cN)], .agg [.c (.int .i64 a2.Bound), .sl 2 (a2.Nogoods.map cN)]] (.c (.bool r1)) := by
  refine aOf Tryz.func7 rfl (by decide) rfl (Nat.le_of_ble_eq_true rfl) ?_; intro _; unfold M_l32_CertifyJoins at h; refine aSR ?_; intro _; refine dr_XDJn ?_; obtain ⟨o1, h, hK2⟩ := ob1_ok h; refine awp_cut (α := Unit) (fun _ => mkS 81 [(3, .ptr 3 0 0 0), (4, .ptr 4 0 0 0), (5, .ptr 5 0 0 0)] [(3, ⟨26, 4, true, [[.sl 1 (a0.Vars.map cI), .sl 1 (a0.Init.map cI), .sl 2 (a0.Goal.map cF), .sl 4 (a0.Ops.map cGOp)]]⟩), (4, ⟨31, 2, true, [[.c (.int .i64 a1.Bound), .sl 2 (a1.Nogoods.map cN)]]⟩), (5, ⟨31, 2, true, [[.c (.int .i64 a2.Bound), .sl 2 (a2.Nogoods.map cN)]]⟩)]) (fun v => o1 = (.inl v)) ?_ ?_
  · refine aSR ?_; intro _; obtain ⟨z9, u3, h⟩ := ob1_ok h; refine cl_XDJn rfl (A_l32_fit a0 u3) ?_; intro _; refine spf h (fun c4 h => ?_) (fun c4 h => ?_)
    · intro _; refine spf h (fun c5 h => ?_) (fun c5 h => ?_)
      · intro _; refine spf h (fun c6 h => ?_) (fun c6 h => ?_)
        · intro _; obtain ⟨z10, u7, h⟩ := ob1_ok h; refine cl_XDJn rfl (A_l32_awake g u7) ?_; intro _; refine dr_XDJn ?_; refine aCd ?_; intro _; refine spl h (fun c8 h => ?_) (fun c8 h => ?_)
          · refine aSR ?_; intro _; obtain ⟨z11, u9, h⟩ := ob1_ok h; refine cl_XDJn rfl (A_l32_awake g u9) ?_; intro _; refine dr_XDJn ?_; refine aRt ?_; have j10 := Option.some.inj h; subst j10; replace h := (osum_r hK2); intro _; obtain rfl := inj1 h; exact ca_XDJn
          · refine aSk ?_; refine ⟨(), (Option.some.inj h).symm, ?_⟩; exact ca_XDJn
        · intro _; refine dr_XDJn ?_; refine aCd ?_; intro _; refine litT ?_; refine aSR ?_; intro _; obtain ⟨z12, u11, h⟩ := ob1_ok h; refine cl_XDJn rfl (A_l32_awake g u11) ?_; intro _; refine dr_XDJn ?_; refine aRt ?_; have j12 := Option.some.inj h; subst j12; replace h := (osum_r hK2); intro _; obtain rfl := inj1 h; exact ca_XDJn
      · intro _; refine dr_XDJn ?_; refine aCd ?_; intro _; refine litT ?_; refine aSR ?_; intro _; obtain ⟨z13, u13, h⟩ := ob1_ok h; refine cl_XDJn rfl (A_l32_awake g u13) ?_; intro _; refine dr_XDJn ?_; refine aRt ?_; have j14 := Option.some.inj h; subst j14; replace h := (osum_r hK2); intro _; obtain rfl := inj1 h; exact ca_XDJn
    · intro _; refine dr_XDJn ?_; refine aCd ?_; intro _; refine litT ?_; refine aSR ?_; intro _; obtain ⟨z14, u15, h⟩ := ob1_ok h; refine cl_XDJn rfl (A_l32_awake g u15) ?_; intro _; refine dr_XDJn ?_; refine aRt ?_; have j16 := Option.some.inj h; subst j16; replace h := (osum_r hK2); intro _; obtain rfl := inj1 h; exact ca_XDJn
  · rintro _ ho; have ho := ho.symm; subst ho; intro _; replace h := (osum_l hK2); refine aSR ?_; intro _; obtain ⟨z15, z16, u17, h⟩ := ob2_ok h; refine cl_XDJn rfl (A_certify_Join a1 a2 u17) ?_; intro _; refine dr_XDJn ?_; refine aSR ?_; intro _; obtain ⟨z17, z18, u18, h⟩ := ob2_ok h; refine cl_XDJn rfl (A_r32_Join a1 a2 u18) ?_; intro _; refine dr_XDJn ?_; obtain ⟨o19, h, hK20⟩ := ob1_ok h; refine awp_cut (α := Unit) (fun _ => mkS 81 [(3, .ptr 3 0 0 0), (4, .ptr 4 0 0 0), (5, .ptr 5 0 0 0), (7, .ptr 7 0 0 0), (8, eA z16)] [(3, ⟨26, 4, true, [[.sl 1 (a0.Vars.map cI), .sl 1 (a0.Init.map cI), .sl 2 (a0.Goal.map cF), .sl 4 (a0.Ops.map cGOp)]]⟩), (4, ⟨31, 2, true, [[.c (.int .i64 a1.Bound), .sl 2 (a1.Nogoods.map cN)]]⟩), (5, ⟨31, 2, true, [[.c (.int .i64 a2.Bound), .sl 2 (a2.Nogoods.map cN)]]⟩), (7, ⟨31, 2, true, [[.c (.int .i64 z15.Bound), .sl 2 (z15.Nogoods.map cN)]]⟩)]) (fun v => o19 = (.inl v)) ?_ ?_
    · refine aSR ?_; intro _; obtain ⟨z23, u21, h⟩ := ob1_ok h; refine cl_XDJn rfl (A_b_Num z16 u21) ?_; intro _; refine spf h (fun c22 h => ?_) (fun c22 h => ?_)
      · intro _; obtain ⟨z24, u23, h⟩ := ob1_ok h; refine cl_XDJn rfl (A_l30_Same z15 z17 u23) ?_; intro _; refine dr_XDJn ?_; refine aCd ?_; intro _; refine spl h (fun c24 h => ?_) (fun c24 h => ?_)
        · refine aSR ?_; intro _; refine dr_XDJn ?_; refine aRt ?_; have j25 := Option.some.inj h; subst j25; replace h := (osum_r hK20); intro _; obtain rfl := inj1 h; exact ca_XDJn
        · refine aSk ?_; refine ⟨(), (Option.some.inj h).symm, ?_⟩; all_goals (cases z16); all_goals exact ca_XDJn
      · intro _; refine dr_XDJn ?_; refine aCd ?_; intro _; refine litT ?_; refine aSR ?_; intro _; refine dr_XDJn ?_; refine aRt ?_; have j26 := Option.some.inj h; subst j26; replace h := (osum_r hK20); intro _; obtain rfl := inj1 h; exact ca_XDJn
    · rintro _ ho; have ho := ho.symm; subst ho; intro _; replace h := (osum_l hK20); refine aSq ?_; refine aSq ?_; rcases z16 with _ | e25
      · replace h := erM_nil h; refine aRg ?_; intro _; refine litFf ?_; intro _; obtain ⟨z26, u27, h⟩ := ob1_ok h; refine cl_XDJn rfl (A_checker_Verify g a0 a1 20000 u27) ?_; rcases z26 with _ | e27
        · replace h := erM_nil h; intro _; refine litFf ?_; intro _; obtain ⟨z28, u28, h⟩ := ob1_ok h; refine cl_XDJn rfl (A_checker_Verify g a0 a2 20000 u28) ?_; rcases z28 with _ | e29
          · replace h := erM_nil h; intro _; refine dr_XDJn ?_; refine aCd ?_; intro _; refine litF ?_; refine aSk ?_; refine aSR ?_; intro _; obtain ⟨z30, u29, h⟩ := ob1_ok h; refine cl_XDJn rfl (A_checker_Verify g a0 z15 1048576 u29) ?_; intro _; refine dr_XDJn ?_; refine aSq ?_; rcases z30 with _ | e31
            · replace h := erM_nil h; refine aRg ?_; intro _; refine litTf ?_; intro _; refine dr_XDJn ?_; refine aRt ?_; intro _; obtain rfl := inj1 h; exact ca_XDJn
            · replace h := erM_no h; refine aRg ?_; intro _; refine litFf ?_; intro _; obtain ⟨z32, u30, h⟩ := ob1_ok h; refine cl_XDJn rfl (A_b_Is (Er.no e31) 10 u30) ?_; intro _; refine dr_XDJn ?_; refine aRt ?_; intro _; obtain rfl := inj1 h; exact ca_XDJn
          · replace h := erM_no h; intro _; refine dr_XDJn ?_; refine aCd ?_; intro _; refine litT ?_; refine aSR ?_; intro _; refine dr_XDJn ?_; refine aRt ?_; intro _; obtain rfl := inj1 h; exact ca_XDJn
        · replace h := erM_no h; intro _; refine litTf ?_; intro _; refine dr_XDJn ?_; refine aCd ?_; intro _; refine litT ?_; refine aSR ?_; intro _; refine dr_XDJn ?_; refine aRt ?_; intro _; obtain rfl := inj1 h; exact ca_XDJn
      · replace h := erM_no h; refine aRg ?_; intro _; refine litTf ?_; intro _; refine dr_XDJn ?_; refine aCd ?_; intro _; refine litT ?_; refine aSR ?_; intro _; refine dr_XDJn ?_; refine aRt ?_; intro _; obtain rfl := inj1 h; exact ca_XDJn
end Go.Proofs.YtohjegemooakpaaGreat.Am
/- Range loops of the models as recursions. -/
namespace Go.Proofs.YtohjegemooakpaaGreat.Am
def M_certify_copied_L1_B (_ : GCertificate) (_y10 : Nogood) (_ : Int) : ((List Nogood)) → (((List Nogood)) → Option (GCertificate)) → Option (GCertificate) := fun v8 rc => ixv _y10 (fun y10 =>
       ob1 (M_cloneF y10.1) (fun z11 =>
        grd ((v8.length + 1) * 32 ≤ 140737488355328) (grd (z11.length ≤ 140737488355328) (rc ((v8 ++ [(z11, y10.2)]))))))
def M_certify_copied_L1_E (a0 : GCertificate) : ((List Nogood)) → Option (GCertificate) := fun v8 => grd (v8.length ≤ 140737488355328) (some ({ Bound := a0.Bound, Nogoods := v8 : GCertificate }))
theorem M_certify_copied_L1_eq (a0 : GCertificate) (v8 : List Nogood) (hl : a0.Nogoods.length < 9223372036854775807) : M_certify_copied_L1 a0 (((a0.Nogoods.map cN).length : Int).toNat + 1) 0 v8 = Rg (M_certify_copied_L1_B a0) (M_certify_copied_L1_E a0) a0.Nogoods 0 v8 := rg_e1 (L := fun k i v8 => M_certify_copied_L1 a0 k i v8) hl (fun _ _ _ => rfl) v8
def M_r06_Is_L1_B (a0 : List Fact) (_y7 : Fact) (v5 : Int) : Unit → (Unit → Option (Bool)) → Option (Bool) := fun _ rc => ixv _y7 (fun y7 =>
       sel (decide (y7.1 < 0))
        (some false)
        (sel (decide (y7.2 < 0))
          (some false)
          (sel (decide (v5 > 0))
            (ix a0 (IntKind.i64.wrap (v5 - 1)) (fun y8 =>
              sel (decide (y8.1 ≥ y7.1))
               (some false)
               (rc ())))
            (rc ()))))
def M_r06_Is_L1_E (_ : List Fact) : Unit → Option (Bool) := fun _ => some true
theorem M_r06_Is_L1_eq (a0 : List Fact)  (hl : a0.length < 9223372036854775807) : M_r06_Is_L1 a0 (((a0.map cF).length : Int).toNat + 1) 0 = Rg (M_r06_Is_L1_B a0) (M_r06_Is_L1_E a0) a0 0 () := rg_e1 (L := fun k i _ => M_r06_Is_L1 a0 k i) hl (fun _ _ _ => rfl) ()
def M_r30_Check_L1_B (_ : Nogood) (_y118 : Fact) (_ : Int) : Unit → (Unit → Option (Unit ⊕ Int)) → Option (Unit ⊕ Int) := fun _ rc => ixv _y118 (fun y118 =>
       sel (decide (y118.1 ≥ 64))
        (some (.inr 2))
        (sel (decide (y118.2 ≥ 64))
          (some (.inr 2))
          (rc ())))
def M_r30_Check_L1_E (_ : Nogood) : Unit → Option (Unit ⊕ Int) := fun _ => some (.inl ())
theorem M_r30_Check_L1_eq (y111 : Nogood)  (hl : y111.1.length < 9223372036854775807) : M_r30_Check_L1 y111 (((y111.1.map cF).length : Int).toNat + 1) 0 = Rg (M_r30_Check_L1_B y111) (M_r30_Check_L1_E y111) y111.1 0 () := rg_e1 (L := fun k i _ => M_r30_Check_L1 y111 k i) hl (fun _ _ _ => rfl) ()
def M_r30_Check_L2_B (_ : GCertificate) (_y111 : Nogood) (_ : Int) : Unit → (Unit → Option (Unit ⊕ Int)) → Option (Unit ⊕ Int) := fun _ rc => ob1 (ixv _y111 (fun y111 =>
        ob1 (M_r06_Is y111.1) (fun z112 =>
         sel (!z112)
          (some (.inr 2))
          (M_r30_Check_L1 y111 ((((y111.1.map cF).length : Int)).toNat + 1) 0))) : Option (Unit ⊕ Int))
       (osum
       (fun _ => rc ())
       (fun r109 => some (.inr r109)))
def M_r30_Check_L2_E (_ : GCertificate) : Unit → Option (Unit ⊕ Int) := fun _ => some (.inl ())
theorem M_r30_Check_L2_eq (a0 : GCertificate)  (hl : a0.Nogoods.length < 9223372036854775807) : M_r30_Check_L2 a0 (((a0.Nogoods.map cN).length : Int).toNat + 1) 0 = Rg (M_r30_Check_L2_B a0) (M_r30_Check_L2_E a0) a0.Nogoods 0 () := rg_e2 (L := fun k i _ => M_r30_Check_L2 a0 k i) hl (fun k n p y hy h1 h2 => by first | (simp only [M_r30_Check_L2, M_r30_Check_L2_B, List.length_map, decide_lt h1, sel, ix_at hy, ixv, h2]; done) | (simp only [List.length_map] at h1 hy; (simp only [M_r30_Check_L2, M_r30_Check_L2_B, List.length_map, decide_lt h1, sel, ix_at hy, ixv, h2]; done))) (fun k p => by simp only [M_r30_Check_L2, M_r30_Check_L2_E, List.length_map, decide_ge, sel]) ()
def M_r30_Check_L3_B (a0 : GCertificate) (_y124 : Nogood) (_ : Int) : Unit → (Unit → Option (Int)) → Option (Int) := fun _ rc => ixv _y124 (fun y124 =>
       sel (decide (y124.2 < 0))
        (some 1)
        (sel (decide (a0.Bound ≥ 0))
          (sel (decide (y124.2 ≥ a0.Bound))
            (some 1)
            (sel (decide (a0.Bound < 0))
              (sel (y124.2 != 0)
                (some 1)
                (rc ()))
              (rc ())))
          (sel (decide (a0.Bound < 0))
            (sel (y124.2 != 0)
              (some 1)
              (rc ()))
            (rc ()))))
def M_r30_Check_L3_E (_ : GCertificate) : Unit → Option (Int) := fun _ => some 0
theorem M_r30_Check_L3_eq (a0 : GCertificate)  (hl : a0.Nogoods.length < 9223372036854775807) : M_r30_Check_L3 a0 (((a0.Nogoods.map cN).length : Int).toNat + 1) 0 = Rg (M_r30_Check_L3_B a0) (M_r30_Check_L3_E a0) a0.Nogoods 0 () := rg_e1 (L := fun k i _ => M_r30_Check_L3 a0 k i) hl (fun _ _ _ => rfl) ()
def M_l30_Same_L1_B (a0 : GCertificate) (a1 : GCertificate) (_y16 : Nogood) (v14 : Int) : Unit → (Unit → Option (Bool)) → Option (Bool) := fun _ rc => ixv _y16 (fun y16 =>
       ix a1.Nogoods v14 (fun y17 =>
        sel (y16.2 != y17.2)
         (some false)
         (ix a0.Nogoods v14 (fun y18 =>
           ix a1.Nogoods v14 (fun y19 =>
            ob1 (M_b_Facts y18.1 y19.1) (fun z20 =>
             sel (!z20)
              (some false)
              (rc ())))))))
def M_l30_Same_L1_E (_ : GCertificate) (_ : GCertificate) : Unit → Option (Bool) := fun _ => some true
theorem M_l30_Same_L1_eq (a0 : GCertificate) (a1 : GCertificate)  (hl : a0.Nogoods.length < 9223372036854775807) : M_l30_Same_L1 a0 a1 (((a0.Nogoods.map cN).length : Int).toNat + 1) 0 = Rg (M_l30_Same_L1_B a0 a1) (M_l30_Same_L1_E a0 a1) a0.Nogoods 0 () := rg_e1 (L := fun k i _ => M_l30_Same_L1 a0 a1 k i) hl (fun _ _ _ => rfl) ()
end Go.Proofs.YtohjegemooakpaaGreat.Am
/- Plain law: the reference of certificate.Check. -/
namespace Go.Proofs.YtohjegemooakpaaGreat.Am
open Go.RowKit
def erN : Er → Int
  | .nil => 0
  | .no e => e
theorem is_loop (l : List Fact) (hs : Sh l) : ∀ (r : List Fact) (n : Nat) (last : Int), l.drop n = r → n ≤ l.length → -1 ≤ last → (n = 0 → last = -1) → (∀ m, n = m + 1 → ∃ x, l[m]? = some x ∧ x.1 = last) → Rg (M_r06_Is_L1_B l) (M_r06_Is_L1_E l) r n () = some (vF last r)
  | [], _, _, _, _, _, _, _ => rfl
  | y :: r, n, last, hd, hn, hl, h0, hp => by
    rw [Rg, vF]
    obtain ⟨hy, hd', hlt⟩ := drop_cons hd
    have hih : 0 ≤ y.1 → Rg (M_r06_Is_L1_B l) (M_r06_Is_L1_E l) r ((n : Int) + 1) () = some (vF y.1 r) := fun h => is_loop l hs r (n + 1) y.1 hd' hlt (by omega) (by omega) (fun m hm => ⟨y, by rw [show m = n by omega]; exact hy, rfl⟩)
    simp only [M_r06_Is_L1_B, ixv, sel_dec]
    by_cases h1 : y.1 < 0
    · rw [if_pos h1, decide_eq_false (by omega)]; rfl
    · rw [if_neg h1]
      by_cases h3 : y.2 < 0
      · rw [if_pos h3, decide_eq_false (by omega)]; rfl
      · rw [if_neg h3]
        cases n with
        | zero =>
          have := h0 rfl
          rw [if_neg (by omega), decide_eq_true (by omega)]
          exact hih (by omega)
        | succ m =>
          obtain ⟨x, hx, hxl⟩ := hp m rfl
          rw [if_pos (by omega), w64 (by omega) (by have := hs; unfold Sh at this; omega), show (((m + 1 : Nat) : Int) - 1) = (m : Int) by omega, ix_at hx]
          by_cases h5 : x.1 ≥ y.1
          · rw [if_pos h5, decide_eq_false (by omega)]; rfl
          · rw [if_neg h5, decide_eq_true (by omega)]
            exact hih (by omega)
theorem is06_eq (l : List Fact) (hl : Sh l) : M_r06_Is l = some (vF (-1) l) := by
  rw [M_r06_Is, M_r06_Is_L1_eq _ hl.lt]
  exact is_loop l hl l 0 (-1) rfl (Nat.zero_le _) (by omega) (fun _ => rfl) (fun m hm => by omega)
theorem ref_cert (c : GCertificate) (hc : ShC c) : M_r30_Check c = some (erN (certF c)) := by
  rw [M_r30_Check, certF, sel_dec, sel_dec]
  by_cases h1 : c.Bound < -1
  · rw [if_pos h1, if_pos (Or.inl h1)]; rfl
  · rw [if_neg h1]
    by_cases h2 : c.Bound > 1099511627776
    · rw [if_pos h2, if_pos (Or.inr h2)]; rfl
    · rw [if_neg h2, if_neg (by omega), ob1_some, osum_inl, sel_dec, List.length_map]
      by_cases h3 : c.Nogoods.length > 4096
      · rw [if_pos (by omega), if_pos h3]; rfl
      · have e2 := M_r30_Check_L2_eq c (by omega)
        have e3 := M_r30_Check_L3_eq c (by omega)
        rw [List.length_map] at e2 e3
        rw [if_neg (by omega), if_neg h3, e2, rg_all (p := fun n : Nogood => frmF n.1) (c := some (.inr 2))]
        · cases ha : c.Nogoods.all fun n => frmF n.1 with
          | false => rw [if_neg (by decide), ob1_some, osum_inr, if_neg (by decide)]; rfl
          | true =>
            rw [if_pos rfl, if_pos rfl, M_r30_Check_L2_E, ob1_some, osum_inl, e3, rg_all (p := distF c.Bound) (c := some 1), M_r30_Check_L3_E]
            · split <;> rfl
            · intro n _ i rc
              rw [M_r30_Check_L3_B, ixv, distF]
              simp only [sel_dec]
              by_cases q1 : n.2 < 0
              · rw [if_pos q1, decide_eq_false (by omega)]; rfl
              · rw [if_neg q1]
                by_cases q2 : c.Bound ≥ 0
                · rw [if_pos q2]
                  by_cases q3 : n.2 ≥ c.Bound
                  · rw [if_pos q3, decide_eq_false (by omega)]; rfl
                  · rw [if_neg q3, if_neg (by omega), decide_eq_true (by omega)]; rfl
                · rw [if_neg q2, if_pos (by omega)]
                  by_cases q4 : n.2 = 0
                  · rw [show (n.2 != 0) = false from by simp [q4], sel_ff, decide_eq_true (by omega)]; rfl
                  · rw [show (n.2 != 0) = true from by simp [q4], sel_tt, decide_eq_false (by omega)]; rfl
        · intro n hn i rc
          have e1 := M_r30_Check_L1_eq n (hc.each n hn).lt
          rw [M_r30_Check_L2_B, ixv, is06_eq n.1 (hc.each n hn), ob1_some, frmF]
          cases vF (-1) n.1 with
          | false => rfl
          | true =>
            rw [Bool.not_true, sel_ff, e1, rg_all (p := fun x : Fact => decide (x.1 < 64 ∧ x.2 < 64)) (c := some (.inr 2)), M_r30_Check_L1_E, Bool.true_and, limF]
            · cases n.1.all fun x => decide (x.1 < 64 ∧ x.2 < 64) <;> rfl
            · intro x _ i rc
              rw [M_r30_Check_L1_B, ixv, sel_dec, sel_dec]
              by_cases h1 : x.1 ≥ 64
              · rw [if_pos h1, decide_eq_false (by omega)]; rfl
              · rw [if_neg h1]
                by_cases h2 : x.2 ≥ 64
                · rw [if_pos h2, decide_eq_false (by omega)]; rfl
                · rw [if_neg h2, decide_eq_true (by omega)]; rfl
theorem certF_code {c : GCertificate} {e : Int} (h : certF c = .no e) : e ≠ 0 := by
  unfold certF at h
  split at h
  · injection h with h; omega
  · split at h
    · injection h with h; omega
    · split at h
      · split at h
        · cases h
        · injection h with h; omega
      · injection h with h; omega
end Go.Proofs.YtohjegemooakpaaGreat.Am
/- Plain law: CertifyJoins. -/
namespace Go.Proofs.YtohjegemooakpaaGreat.Am
open Go.RowKit
theorem awake100 : M_l32_awake 100 = some true := by kernel_rfl
theorem fit_eq (t : GTask) (ht : ShT t) : M_l32_fit t = some (fitF t) := by
  rw [M_l32_fit, tame_eq t ht, ob1_some, fitF]
  cases tameF t with
  | false => rfl
  | true =>
    rw [sel_tt, sel_dec, List.length_map, Bool.true_and]
    by_cases h : t.Ops.length ≤ 10
    · rw [if_pos (by omega), many_eq _ ht.vars 81 (by omega), ob1_some, decide_eq_true h, Bool.true_and]
    · rw [if_neg (by omega), decide_eq_false h, Bool.false_and]
theorem bfacts_loop (a b : List Fact) : ∀ (r s : List Fact) (n : Nat), a.drop n = r → b.drop n = s → r.length = s.length → Rg (M_b_Facts_L1_B a b) (M_b_Facts_L1_E a b) r n () = some (decide (r = s))
  | [], [], n, _, _, _ => by rw [Rg, M_b_Facts_L1_E, decide_eq_true rfl]
  | [], _ :: _, n, _, _, h => by cases h
  | _ :: _, [], n, _, _, h => by cases h
  | x :: r, y :: s, n, h1, h2, hl => by
    obtain ⟨hy, hd, -⟩ := drop_cons h2
    have ih := bfacts_loop a b r s (n + 1) (drop_cons h1).2.1 hd (by simpa using hl)
    rw [Rg, M_b_Facts_L1_B, ixv, ix_at hy, fact_beq]
    by_cases e : x = y
    · rw [decide_eq_true e, Bool.not_true, sel_ff]
      refine Eq.trans ih ?_
      subst e; simp
    · rw [decide_eq_false e, Bool.not_false, sel_tt, decide_eq_false]
      intro h; exact e (List.cons.inj h).1
theorem bfacts_eq (a b : List Fact) (ha : Sh a) : M_b_Facts a b = some (decide (a = b)) := by
  rw [M_b_Facts, List.length_map, List.length_map, bne_len]
  by_cases h : a.length = b.length
  · rw [decide_eq_false (by simp [h]), sel_ff]
    have e := M_b_Facts_L1_eq a b ha.lt
    rw [List.length_map] at e
    rw [e]
    exact bfacts_loop a b a b 0 rfl rfl h
  · rw [decide_eq_true h, sel_tt, decide_eq_false]
    rintro rfl; exact h rfl
theorem same_refl (c : GCertificate) (hl : c.Nogoods.length ≤ 1000) (hn : ∀ n ∈ c.Nogoods, n.1.length ≤ 1000) : M_l30_Same c c = some true := by
  have key : ∀ (r : List Nogood) (n : Nat), c.Nogoods.drop n = r → n ≤ c.Nogoods.length → Rg (M_l30_Same_L1_B c c) (M_l30_Same_L1_E c c) r n () = some true := by
    intro r
    induction r with
    | nil => intro n _ _; rfl
    | cons y r ih =>
      intro n hd hle
      obtain ⟨hy, hd', hlt⟩ := drop_cons hd
      have h1 := ih (n + 1) hd' (by omega)
      rw [show ((n + 1 : Nat) : Int) = (n : Int) + 1 from rfl] at h1
      have hm := hn y (List.mem_of_getElem? hy)
      rw [Rg, M_l30_Same_L1_B, ixv]
      simp only [ix_at hy]
      rw [show (y.2 != y.2) = false from by rw [bne_eq_false_iff_eq], sel_ff, bfacts_eq y.1 y.1 (by unfold Sh; omega), ob1_some, decide_eq_true rfl, Bool.not_true, sel_ff]
      exact h1
  rw [M_l30_Same, show (c.Bound != c.Bound) = false from by rw [bne_eq_false_iff_eq], sel_ff, show ((((c.Nogoods.map cN).length : Nat) : Int) != (((c.Nogoods.map cN).length : Nat) : Int)) = false from by rw [bne_eq_false_iff_eq], sel_ff, ob1_some, osum_inl, M_l30_Same_L1_eq c c (by omega)]
  exact key c.Nogoods 0 (List.drop_zero ..) (Nat.zero_le _)
theorem copied_eq (c : GCertificate) (hl : c.Nogoods.length ≤ 4096) (hn : ∀ n ∈ c.Nogoods, n.1.length ≤ 64) : M_certify_copied c = some c := by
  have key : ∀ (r : List Nogood) (i : Int) (v : List Nogood), (∀ n ∈ r, n.1.length ≤ 64) → v.length + r.length ≤ 100000 → Rg (M_certify_copied_L1_B c) (M_certify_copied_L1_E c) r i v = some { Bound := c.Bound, Nogoods := v ++ r } := by
    intro r
    induction r with
    | nil => intro i v _ h; rw [Rg, M_certify_copied_L1_E, grd_t (by simp at h; omega), List.append_nil]
    | cons n r ih =>
      intro i v hr h
      rw [List.length_cons] at h
      have hn := hr n (List.mem_cons_self ..)
      rw [Rg, M_certify_copied_L1_B, ixv, M_cloneF, grd_t (by omega), ob1_some, grd_t (by omega), grd_t (by omega), ih _ _ (fun m hm => hr m (List.mem_cons_of_mem _ hm)) (by simp; omega), List.append_assoc]
      rfl
  rw [M_certify_copied, M_certify_copied_L1_eq c [] (by omega), key c.Nogoods 0 [] hn (by simp; omega), List.nil_append]
theorem frm_len {p : List Fact} (h : frmF p = true) : p.length ≤ 64 := by
  unfold frmF at h
  rw [Bool.and_eq_true] at h
  obtain ⟨h1, h2⟩ := (vF_iff p (-1)).1 h.1
  have h3 : ∀ x ∈ p, x.1 < 64 := fun x hx => by
    have := h.2
    unfold limF at this
    rw [List.all_eq_true] at this
    exact (of_decide_eq_true (this x hx)).1
  have key : ∀ (l : List Fact) (k : Int), Asc l → (∀ x ∈ l, k < x.1 ∧ x.1 < 64) → k < 64 → (l.length : Int) ≤ 63 - k := by
    intro l
    induction l with
    | nil => intro k _ _ hk; simp; omega
    | cons y r ih =>
      intro k ha hx hk
      have hy := hx y (List.mem_cons_self ..)
      obtain ⟨a1, a2⟩ := List.pairwise_cons.1 ha
      have := ih y.1 a2 (fun x hx2 => ⟨a1 x hx2, (hx x (List.mem_cons_of_mem _ hx2)).2⟩) hy.2
      rw [List.length_cons]
      omega
  have := key p (-1) h2 (fun x hx => ⟨(h1 x hx).1, h3 x hx⟩) (by decide)
  omega
theorem join_acc {t : GTask} {a b : GCertificate} (hb : b.Bound = a.Bound) (hl : a.Nogoods.length + b.Nogoods.length ≤ 4096) (pa : CertP t.Vars a) (pb : CertP t.Vars b) (ha : Acc t a) (hbb : Acc t b) :
    CertP t.Vars { Bound := a.Bound, Nogoods := a.Nogoods ++ b.Nogoods } ∧ Acc t { Bound := a.Bound, Nogoods := a.Nogoods ++ b.Nogoods } := by
  have m : ∀ n, n ∈ a.Nogoods ++ b.Nogoods → n ∈ a.Nogoods ∨ n ∈ b.Nogoods := fun n h => List.mem_append.1 h
  have cl1 : ∀ s d, claimsF a.Nogoods s d = true → claimsF (a.Nogoods ++ b.Nogoods) s d = true := fun s d h => by unfold claimsF at h ⊢; rw [List.any_append, h, Bool.true_or]
  have cl2 : ∀ s d, claimsF b.Nogoods s d = true → claimsF (a.Nogoods ++ b.Nogoods) s d = true := fun s d h => by unfold claimsF at h ⊢; rw [List.any_append, h, Bool.or_true]
  have sk : ∀ n o, skipO b n o = skipO a n o := fun n o => by unfold skipO; rw [hb]
  have ds : ∀ n o, distO b n o = distO a n o := fun n o => by unfold distO; rw [hb]
  refine ⟨⟨pa.b0, pa.b1, by simp; omega, fun n hn => ?_, fun n hn => ?_, fun n hn => ?_, fun n hn => ?_, fun n hn => ?_⟩, ⟨fun n hn => ?_, fun h0 s hs hh => cl1 _ _ (ha.goal h0 s hs hh), fun n hn o ho hsk s hs hi => ?_⟩⟩
  · rcases m n hn with h | h; exact pa.prop n h; exact pb.prop n h
  · rcases m n hn with h | h; exact pa.frm n h; exact pb.frm n h
  · rcases m n hn with h | h; exact pa.d0 n h; exact pb.d0 n h
  · rcases m n hn with h | h
    · exact pa.d1 n h
    · have := pb.d1 n h; rw [hb] at this; exact this
  · rcases m n hn with h | h
    · exact pa.d2 n h
    · have := pb.d2 n h; rw [hb] at this; exact this
  · rcases m n hn with h | h; exact ha.init n h; exact hbb.init n h
  · rcases m n hn with h | h
    · exact cl1 _ _ (ha.step n h o ho hsk s hs hi)
    · have := hbb.step n h o ho (by rw [sk]; exact hsk) s hs hi
      rw [ds] at this
      exact cl2 _ _ this
theorem joinC_eq (a b : GCertificate) (ha : ShC a) (hb : ShC b) (hl : a.Nogoods.length + b.Nogoods.length ≤ 20) :
    (∃ e, e ≠ 0 ∧ M_certify_Join a b = some ({ Bound := 0, Nogoods := [] }, .no e) ∧ M_r32_Join a b = some ({ Bound := 0, Nogoods := [] }, e)) ∨
    (b.Bound = a.Bound ∧ (∀ n ∈ a.Nogoods ++ b.Nogoods, n.1.length ≤ 64) ∧ M_certify_Join a b = some ({ Bound := a.Bound, Nogoods := a.Nogoods ++ b.Nogoods }, .nil) ∧ M_r32_Join a b = some ({ Bound := a.Bound, Nogoods := a.Nogoods ++ b.Nogoods }, 0)) := by
  have nz : ∀ e : Int, e ≠ 0 → (erN (.no e) != 0) = true := fun e he => bne_iff_ne.2 he
  cases h1 : certF a with
  | no e =>
    have he := certF_code h1
    refine .inl ⟨e, he, ?_, ?_⟩
    · rw [M_certify_Join, ccheck_eq a ha, h1, ob1_some]; rfl
    · rw [M_r32_Join, ref_cert a ha, h1, ob1_some, nz e he, sel_tt]; rfl
  | nil =>
    cases h2 : certF b with
    | no e =>
      have he := certF_code h2
      refine .inl ⟨e, he, ?_, ?_⟩
      · rw [M_certify_Join, ccheck_eq a ha, h1, ob1_some]
        show ob1 (M_ce_Check b) _ = _
        rw [ccheck_eq b hb, h2, ob1_some]; rfl
      · rw [M_r32_Join, ref_cert a ha, h1, ob1_some]
        show ob1 (M_r30_Check b) _ = _
        rw [ref_cert b hb, h2, ob1_some, nz e he, sel_tt]; rfl
    | nil =>
      obtain ⟨_, _, _, f1, _⟩ := (certF_nil a).1 h1
      obtain ⟨_, _, _, f2, _⟩ := (certF_nil b).1 h2
      have j1 : M_certify_Join a b = sel (a.Bound != b.Bound) (some ({ Bound := 0, Nogoods := [] }, .no 2)) (ob1 (M_certify_copied a) (fun z5 => ob1 (M_certify_copied b) (fun z6 => grd ((z5.Nogoods.length + z6.Nogoods.length) * 32 ≤ 140737488355328) (sel (decide ((((z5.Nogoods.length + (z6.Nogoods.map cN).length) : Nat) : Int) > 4096)) (some ({ Bound := 0, Nogoods := [] }, (Er.no 5))) (grd ((z5.Nogoods.length + (z6.Nogoods.map cN).length) ≤ 140737488355328) (some ({ Bound := z5.Bound, Nogoods := (z5.Nogoods ++ z6.Nogoods) : GCertificate }, Er.nil))))))) := by
        rw [M_certify_Join, ccheck_eq a ha, h1, ob1_some]
        show ob1 (M_ce_Check b) _ = _
        rw [ccheck_eq b hb, h2, ob1_some]
        rfl
      have j2 : M_r32_Join a b = sel (a.Bound != b.Bound) (some ({ Bound := 0, Nogoods := [] }, 2)) (sel (decide ((IntKind.i64.wrap (((a.Nogoods.map cN).length : Int) + ((b.Nogoods.map cN).length : Int))) > 4096)) (some ({ Bound := 0, Nogoods := [] }, 5)) (grd ((0 + a.Nogoods.length) * 32 ≤ 140737488355328) (grd ((a.Nogoods.length + b.Nogoods.length) * 32 ≤ 140737488355328) (grd ((a.Nogoods ++ b.Nogoods).length ≤ 140737488355328) (some ({ Bound := a.Bound, Nogoods := (a.Nogoods ++ b.Nogoods) : GCertificate }, 0)))))) := by
        rw [M_r32_Join, ref_cert a ha, h1, ob1_some]
        show ob1 (M_r30_Check b) _ = _
        rw [ref_cert b hb, h2, ob1_some]
        rfl
      rw [j1, j2]
      by_cases hbd : a.Bound = b.Bound
      · rw [show (a.Bound != b.Bound) = false from by rw [bne_eq_false_iff_eq]; exact hbd, sel_ff, sel_ff]
        refine .inr ⟨hbd.symm, fun n hn => ?_, ?_, ?_⟩
        · rcases List.mem_append.1 hn with h | h
          · exact frm_len (f1 n h)
          · exact frm_len (f2 n h)
        · rw [copied_eq a (by omega) (fun n hn => frm_len (f1 n hn)), ob1_some, copied_eq b (by omega) (fun n hn => frm_len (f2 n hn)), ob1_some, grd_t (by omega), List.length_map, sel_dec, if_neg (by omega), grd_t (by omega)]
        · rw [List.length_map, List.length_map, w64 (by omega) (by omega), sel_dec, if_neg (by omega), grd_t (by omega), grd_t (by omega), grd_t (by rw [List.length_append]; omega)]
      · rw [show (a.Bound != b.Bound) = true from by rw [bne_iff_ne]; exact hbd, sel_tt, sel_tt]
        exact .inl ⟨2, by decide, rfl, rfl⟩
theorem joins_true (t : GTask) (ht : ShT t) (a b : GCertificate) (ha : ShC a) (hb : ShC b) : M_l32_CertifyJoins 100 t a b = some true := by
  rw [M_l32_CertifyJoins, awake100, fit_eq t ht, ob1_some]
  cases hfit : fitF t with
  | false => rfl
  | true =>
    have hf := fit_of hfit
    have hsa := ha.list
    have hsb := hb.list
    unfold Sh at hsa hsb
    rw [Bool.not_true, sel_ff, sel_dec, List.length_map, List.length_map, List.length_map, w64 (by omega) (by omega), sel_dec]
    by_cases h6 : (t.Ops.length : Int) > 6
    · rw [if_pos h6]; rfl
    · rw [if_neg h6]
      by_cases h20 : ((a.Nogoods.length : Int) + (b.Nogoods.length : Int)) > 20
      · rw [if_pos h20]; rfl
      · rw [if_neg h20, ob1_some, Bool.not_true, sel_ff, ob1_some, osum_inl]
        rcases joinC_eq a b ha hb (by omega) with ⟨e, he, j1, j2⟩ | ⟨hbd, hfl, j1, j2⟩
        · rw [j1, ob2_some, j2, ob2_some, num_no, ob1_some, show (e != e) = false from by rw [bne_eq_false_iff_eq], sel_ff, same_refl _ (by simp) (fun n hn => by cases hn)]
          rfl
        · rw [j1, ob2_some, j2, ob2_some, num_nil, ob1_some, show ((0 : Int) != 0) = false from rfl, sel_ff, same_refl _ (by simp; omega) (fun n hn => by have := hfl n hn; omega), ob1_some, Bool.not_true, sel_ff, ob1_some, osum_inl]
          show ob1 (M_checker_Verify 100 t a 20000) _ = _
          rw [verify_eq t ht a ha 20000 100 (by decide), ob1_some]
          cases hva : verF t a 20000 with
          | no e => rfl
          | nil =>
            show ob1 (M_checker_Verify 100 t b 20000) _ = _
            rw [verify_eq t ht b hb 20000 100 (by decide), ob1_some]
            cases hvb : verF t b 20000 with
            | no e => rfl
            | nil =>
              obtain ⟨_, pa, aa⟩ := ver_acc hva
              obtain ⟨_, pb, ab⟩ := ver_acc hvb
              obtain ⟨pc, ac⟩ := join_acc hbd (by omega) pa pb aa ab
              have hv := acc_ver hf pc ac 1048576
              show ob1 (M_checker_Verify 100 t { Bound := a.Bound, Nogoods := a.Nogoods ++ b.Nogoods } 1048576) _ = _
              rw [verify_eq t ht _ ⟨by show _ ≤ _; simp; omega, fun n hn => by have := hfl n hn; show _ ≤ _; omega⟩ 1048576 100 (by decide), ob1_some]
              rcases hv with hv | hv
              · rw [hv]; rfl
              · rw [hv]; rfl
end Go.Proofs.YtohjegemooakpaaGreat.Am
/- Opening arguments: slices of numbers, of facts, of nogoods, a certificate. -/
namespace Go.Proofs.YtohjegemooakpaaGreat
open Go.RowKit Go.ChangeShapes Go.WideShapes Go.Deep Go.Joins

def I64 (x : Int) : Prop := -9223372036854775808 ≤ x ∧ x ≤ 9223372036854775807
theorem I64.of {x : Int} (h : (Lit.int .i64 x).wf = true) : I64 x := by
  have := bounds_i64 h
  exact this

section
variable {H : Type} {enc : TypeId × Value → H} {P : Program} {w : World} {base : Nat} {spare : Nat → Bool} {held : Bool}

/-- within the form's reach -/
def Sized (P : Program) (t : TypeId) (d : DataW H) : Prop := ∀ n ∈ d.weights P t, n ≤ reachBytes
theorem sized_arg {ts : List TypeId} {ds : List (DataW H)} (h : (DataW.weightsEach P ts ds).all (· ≤ reachBytes) = true) {j : Nat} {t : TypeId} {d : DataW H} (ht : ts[j]? = some t) (hd : ds[j]? = some d) : Sized P t d :=
  fun n hn => of_decide_eq_true (List.all_eq_true.1 h n (DataW.weights_mem_each ht hd n hn))
theorem sized_field {t : TypeId} {fs : Array Field} {parts : List (DataW H)} (h : Sized P t (.agg parts)) (hu : P.underlying t = some (.struct fs)) {j : Nat} {f : Field} {d : DataW H} (hf : fs[j]? = some f) (hd : parts[j]? = some d) : Sized P f.type d :=
  fun n hn => h n (by
    simp only [DataW.weights, hu]
    exact DataW.weights_mem_each (j := j) (by simp [List.getElem?_map, hf]) hd n hn)
theorem weightsAll_mem {e : TypeId} : ∀ {l : List (DataW H)} {d : DataW H}, d ∈ l → ∀ n ∈ d.weights P e, n ∈ DataW.weightsAll P e l
  | x :: l, d, hd, n, hn => by
    simp only [DataW.weightsAll, List.mem_append]
    rcases List.mem_cons.1 hd with rfl | h
    · exact Or.inl hn
    · exact Or.inr (weightsAll_mem h n hn)
theorem sized_elem {t e : TypeId} {elems sp : List (DataW H)} (h : Sized P t (.slice elems sp)) (hu : P.underlying t = some (.slice e)) {d : DataW H} (hd : d ∈ elems) : Sized P e d :=
  fun n hn => h n (by
    simp only [DataW.weights, hu, List.mem_cons, List.mem_append]
    exact Or.inr (Or.inl (weightsAll_mem hd n hn)))
theorem sized_len {t e : TypeId} {elems sp : List (DataW H)} (h : Sized P t (.slice elems sp)) (hu : P.underlying t = some (.slice e)) : elems.length * P.bytesOf e ≤ 140737488355328 := by
  have h1 := h ((elems.length + sp.length) * P.bytesOf e) (by simp [DataW.weights, hu])
  have h2 : elems.length * P.bytesOf e ≤ (elems.length + sp.length) * P.bytesOf e := Nat.mul_le_mul_right _ (by omega)
  have h3 : reachBytes ≤ 140737488355328 := by decide
  omega

end

theorem spot_of_cell {w : World} {p : Addr} {v : Value} (h : w.cell? p = some v) : p.spot = none := by
  unfold World.cell? at h
  split at h
  · split at h
    · cases h
    · rename_i hs; simpa using hs
  · cases h
theorem addr_of_cell {w : World} {a : Addr} {k : Nat} {v : Value} (h0 : ∃ u, w.cell? (a.add 0) = some u) (h : w.cell? (a.add k) = some v) : a = ⟨a.block, a.off, none⟩ ∧ w.cell? ⟨a.block, a.off + k, none⟩ = some v := by
  obtain ⟨u, hu⟩ := h0
  have hs := spot_of_cell hu
  obtain ⟨b, off, sp⟩ := a
  simp [Addr.add] at hs
  subst hs
  refine ⟨rfl, ?_⟩
  rw [← h]
  congr 1
  unfold Addr.add
  split
  · subst k; rfl
  · rfl

theorem list_of {α : Type} (n : Nat) (R : Nat → α → Prop) (h : ∀ i, i < n → ∃ x, R i x) : ∃ l : List α, l.length = n ∧ ∀ k x, l[k]? = some x → R k x := by
  induction n with
  | zero => exact ⟨[], rfl, fun k x hx => by simp at hx⟩
  | succ n ih =>
    obtain ⟨l, hl, hr⟩ := ih (fun i hi => h i (by omega))
    obtain ⟨x, hx⟩ := h n (by omega)
    refine ⟨l ++ [x], by simp [hl], fun k y hy => ?_⟩
    by_cases hk : k < n
    · rw [List.getElem?_append_left (by omega)] at hy
      exact hr k y hy
    · rw [List.getElem?_append_right (by omega)] at hy
      have hk' : k - l.length = 0 := by
        have := (List.getElem?_eq_some_iff.1 hy).1
        simp at this
        omega
      rw [hk'] at hy
      simp at hy
      subst hy
      obtain rfl : k = n := by omega
      exact hx

variable {H : Type} {enc : TypeId × Value → H} {w : World} {base : Nat} {spare : Nat → Bool} {held : Bool}
end Go.Proofs.YtohjegemooakpaaGreat
/- Opening arguments for the abstract machine: readers that compose. -/
namespace Go.Proofs.YtohjegemooakpaaGreat.Am
open Go.RowKit Go.ChangeShapes Go.WideShapes Go.Deep Go.Joins

/-- nothing is owned at the start -/
abbrev mZ : MM := mO (fun _ => False)
theorem noZ (b : Nat) : ¬ Owned nov mZ b := fun h => owned_nov.1 h

section
variable {H : Type} {enc : TypeId × Value → H} {P : Program} {w : World} {base : Nat} {spare : Nat → Bool} {held : Bool}
/-- cells that stand for the values -/
def CellsRv (w : World) (es : List AV) (cs : List Value) : Prop := es.length = cs.length ∧ (∀ (j : Nat) (y : AV) (u : Value), es[j]? = some y → cs[j]? = some u → RV w nov mZ y u ∧ u.oneCell' = true) ∧ ∀ y ∈ es, Fr y
/-- data of type t read as an α -/
def Opens (enc : TypeId × Value → H) (P : Program) (w : World) (base : Nat) (spare : Nat → Bool) (held : Bool) (t : TypeId) {α : Type} (en : α → List AV) (R : α → Prop) : Prop :=
  ∀ (fuel : Nat) (cs : List Value) (x : DataW H × List MemPlace), DataW.trod enc P w base spare held fuel t cs = some x → Sized P t x.1 → ∃ a, R a ∧ CellsRv w (en a) cs

theorem cells_one1 {y : AV} {u : Value} (h : RV w nov mZ y u) (h1 : u.oneCell' = true) (hf : Fr y) : CellsRv w [y] [u] := by
  refine ⟨rfl, fun j z v hz hv => ?_, fun z hz => by simp at hz; subst hz; exact hf⟩
  cases j with
  | zero => simp at hz hv; subst hz hv; exact ⟨h, h1⟩
  | succ j => simp at hz
theorem opens_int {t : TypeId} {k : IntKind} (ht : P.underlying t = some (.int k)) : Opens enc P w base spare held t (fun z : Int => [.c (.int k z)]) (fun z => (Lit.int k z).wf = true) := by
  intro fuel cs x h _
  obtain ⟨z, rfl, _, wz⟩ := DataW.trod_int ht h
  exact ⟨z, wz, cells_one1 (.c _) rfl (.c _)⟩
theorem opens_slice {t e : TypeId} {α : Type} {en : α → List AV} {R : α → Prop} {sz by_ : Nat} (ht : P.underlying t = some (.slice e)) (hc : P.cellsOf e = sz) (hb : P.bytesOf e = by_) (hby : 0 < by_) (hsz : 0 < sz) (he : Opens enc P w base spare held e en R) :
    Opens enc P w base spare held t (fun l : List α => [.sl sz (l.map en)]) (fun l => l.length * by_ ≤ 140737488355328 ∧ ∀ x ∈ l, R x) := by
  intro fuel cs x h hs
  rcases open_slice ht h with ⟨rfl, _⟩ | ⟨a, len, cap, m, n, D, Pl, rfl, _, hl, hm, hmm, rfl, hi⟩
  · refine ⟨[], ⟨by simp, by simp⟩, cells_one1 ?_ rfl (.sl (fun e he => by cases he))⟩
    exact RV.sl (l := []) (b := 0) (off := 0) (f := fun _ _ => undef) (fun h => absurd rfl h) (Nat.zero_le _) (by simp) (fun k e h => by simp at h) (fun k j e x h => by simp at h) (fun k j e x h => by simp at h) (fun e he => by cases he)
  · have hlen := sized_len hs ht
    rw [hb] at hlen
    simp only [List.length_map, List.length_range] at hlen
    have hml : len ≤ m := by rw [hmm]; split <;> omega
    have hcell : ∀ i, i < len → ∃ z : α, R z ∧ ∃ cs', CellsRv w (en z) cs' ∧ cs'.length = sz ∧ ∀ j, j < sz → w.cell? (a.add (i * sz + j)) = cs'[j]? := by
      intro i hi'
      obtain ⟨cs', hcc, ht'⟩ := hi i (by omega)
      rw [hc] at hcc
      obtain ⟨z, hz, hcr⟩ := he n cs' _ ht' (sized_elem hs ht (List.mem_map.2 ⟨i, by simpa using hi', rfl⟩))
      obtain ⟨_, hcl', hat⟩ := World.cells?_some hcc
      exact ⟨z, hz, cs', hcr, hcl', fun j hj => by rw [← hat j hj, Go.Deep.add_add]⟩
    obtain ⟨l, hl', hat⟩ := list_of len _ hcell
    have hR : ∀ x ∈ l, R x := fun x hx => by
      obtain ⟨k, hk⟩ := List.getElem?_of_mem hx
      exact (hat k x hk).1
    have hfr : FrL (l.map en) := by
      intro e he
      obtain ⟨x, hx, rfl⟩ := List.mem_map.1 he
      obtain ⟨k, hk⟩ := List.getElem?_of_mem hx
      obtain ⟨_, cs', hcr, _⟩ := hat k x hk
      exact hcr.2.2
    refine ⟨l, ⟨by rw [hl']; exact hlen, hR⟩, cells_one1 ?_ rfl (.sl hfr)⟩
    have key : ∀ (k j : Nat) (e : List AV) (y : AV), (l.map en)[k]? = some e → e[j]? = some y → e.length = sz ∧ ∃ u, w.cell? ⟨a.block, a.off + (k * sz + j), none⟩ = some u ∧ u.oneCell' = true ∧ RV w nov mZ y u ∧ a = ⟨a.block, a.off, none⟩ ∧ a.block < w.heap.size := by
      intro k j e y hk hj
      rw [List.getElem?_map] at hk
      cases hx : l[k]? with
      | none => rw [hx] at hk; cases hk
      | some z =>
        rw [hx] at hk
        simp at hk
        subst hk
        obtain ⟨_, cs', ⟨c1, c2, _⟩, c4, c5⟩ := hat k z hx
        have hjl : j < sz := by rw [← c4, ← c1]; exact (List.getElem?_eq_some_iff.1 hj).1
        have hcj := c5 j hjl
        have hget : cs'[j]? = some (cs'[j]'(by omega)) := List.getElem?_eq_getElem _
        rw [hget] at hcj
        obtain ⟨r1, r2⟩ := c2 j y _ hj hget
        have h0 : 0 < len := by have := (List.getElem?_eq_some_iff.1 hx).1; omega
        obtain ⟨_, _, cs0, ⟨_, _, _⟩, d4, d5⟩ := hcell 0 h0
        have hz0 := d5 0 hsz
        rw [List.getElem?_eq_getElem (by omega)] at hz0
        obtain ⟨e1, e2⟩ := addr_of_cell ⟨_, by simpa using hz0⟩ hcj
        exact ⟨by rw [c1, c4], _, e2, r2, r1, e1, lt_of_cell (p := ⟨a.block, a.off + (k * sz + j), none⟩) e2⟩
    have hlen2 : (l.map en).length = len := by simp [hl']
    have := RV.sl (w := w) (vs := nov) (m := mZ) (sz := sz) (l := l.map en) (A := some a) (cap := cap) (b := a.block) (off := a.off) (f := fun k j => (w.cell? ⟨a.block, a.off + (k * sz + j), none⟩).getD undef)
      (fun hne => ?_) (by omega) (by rw [hlen2]; exact Nat.le_trans (Nat.le_mul_of_pos_right _ hby) hlen) (fun k e hk => ?_) (fun k j e y hk hj => ?_) (fun k j e y hk hj => ?_) hfr
    · rw [hlen2] at this
      exact this
    · have h0 : 0 < (l.map en).length := List.length_pos_iff.2 hne
      have hk := List.getElem?_eq_getElem h0
      obtain ⟨x0, hx0, hx0'⟩ : ∃ x0, l[0]? = some x0 ∧ (l.map en)[0] = en x0 := by
        have h1 : 0 < l.length := by simpa using h0
        exact ⟨l[0], List.getElem?_eq_getElem h1, by simp⟩
      obtain ⟨_, cs', ⟨c1, _, _⟩, c4, _⟩ := hat 0 x0 hx0
      have hel : 0 < ((l.map en)[0]).length := by rw [hx0', c1, c4]; exact hsz
      obtain ⟨_, _, _, _, _, q1, q2⟩ := key 0 0 _ _ hk (List.getElem?_eq_getElem hel)
      exact ⟨by rw [← q1], noZ _, q2⟩
    · rw [List.getElem?_map] at hk
      cases hx : l[k]? with
      | none => rw [hx] at hk; cases hk
      | some z =>
        rw [hx] at hk
        simp at hk
        subst hk
        obtain ⟨_, cs', ⟨c1, _, _⟩, c4, _⟩ := hat k z hx
        rw [c1, c4]
    · obtain ⟨_, u, q1, q2, _⟩ := key k j e y hk hj
      rw [q1]
      exact ⟨rfl, q2⟩
    · obtain ⟨_, u, q1, _, q3, _⟩ := key k j e y hk hj
      rw [q1]
      exact q3

/-- fields from one on -/
def OpensF (enc : TypeId × Value → H) (P : Program) (w : World) (base : Nat) (spare : Nat → Bool) (held : Bool) (fs : List Field) (off tot : Nat) {α : Type} (en : α → List AV) (R : α → Prop) : Prop :=
  ∀ (fuel : Nat) (cs : List Value) (xs : List (DataW H × List MemPlace)), cs.length = tot → xs.length = fs.length → (∀ (i : Nat) (f : Field), fs[i]? = some f → DataW.trod enc P w base spare held fuel f.type ((cs.drop f.offset).take (P.cellsOf f.type)) = xs[i]?) →
    (∀ (i : Nat) (f : Field) (x : DataW H × List MemPlace), fs[i]? = some f → xs[i]? = some x → Sized P f.type x.1) → ∃ a, R a ∧ CellsRv w (en a) (cs.drop off)
theorem cells_append {a b : List AV} {xs ys : List Value} (h1 : CellsRv w a xs) (h2 : CellsRv w b ys) : CellsRv w (a ++ b) (xs ++ ys) := by
  refine ⟨by rw [List.length_append, List.length_append, h1.1, h2.1], fun j y u hy hu => ?_, fun y hy => ?_⟩
  · rcases Nat.lt_or_ge j a.length with hlt | hge
    · rw [List.getElem?_append_left hlt] at hy
      rw [List.getElem?_append_left (by rw [← h1.1]; exact hlt)] at hu
      exact h1.2.1 j y u hy hu
    · rw [List.getElem?_append_right hge] at hy
      rw [List.getElem?_append_right (by rw [← h1.1]; exact hge)] at hu
      rw [h1.1] at hy
      exact h2.2.1 _ y u hy hu
  · rcases List.mem_append.1 hy with h | h
    · exact h1.2.2 y h
    · exact h2.2.2 y h
theorem opensF_last {f : Field} {off tot : Nat} {α : Type} {en : α → List AV} {R : α → Prop} (ho : f.offset = off) (htot : off + P.cellsOf f.type = tot) (h : Opens enc P w base spare held f.type en R) : OpensF enc P w base spare held [f] off tot en R := by
  intro fuel cs xs hcl hx ht hs
  obtain ⟨x, rfl⟩ := List.length_eq_one_iff.1 hx
  have h1 := ht 0 f rfl
  obtain ⟨a, ha, hc⟩ := h fuel _ x h1 (hs 0 f x rfl rfl)
  refine ⟨a, ha, ?_⟩
  rw [ho, List.take_of_length_le (by simp; omega)] at hc
  exact hc
theorem opensF_cons {f : Field} {fs : List Field} {off off' tot : Nat} {α β : Type} {en : α → List AV} {R : α → Prop} {en' : β → List AV} {R' : β → Prop} (ho : f.offset = off) (hoff : off + P.cellsOf f.type = off') (h : Opens enc P w base spare held f.type en R) (h' : OpensF enc P w base spare held fs off' tot en' R') :
    OpensF enc P w base spare held (f :: fs) off tot (fun p : α × β => en p.1 ++ en' p.2) (fun p => R p.1 ∧ R' p.2) := by
  intro fuel cs xs hcl hx ht hs
  cases xs with
  | nil => simp at hx
  | cons x xs =>
    obtain ⟨a, ha, hc⟩ := h fuel _ x (ht 0 f rfl) (hs 0 f x rfl rfl)
    obtain ⟨b, hb, hc'⟩ := h' fuel cs xs hcl (by simpa using hx) (fun i g hg => by simpa using ht (i + 1) g (by simpa using hg)) (fun i g y hg hy => hs (i + 1) g y (by simpa using hg) (by simpa using hy))
    refine ⟨(a, b), ⟨ha, hb⟩, ?_⟩
    rw [ho] at hc
    have : cs.drop off = (cs.drop off).take (P.cellsOf f.type) ++ cs.drop off' := by
      rw [← hoff, ← List.drop_drop, List.take_append_drop]
    rw [this]
    exact cells_append hc hc'
theorem opens_struct {t : TypeId} {fs : Array Field} {α : Type} {en : α → List AV} {R : α → Prop} (ht : P.underlying t = some (.struct fs)) (h : OpensF enc P w base spare held fs.toList 0 (P.cellsOf t) en R) : Opens enc P w base spare held t en R := by
  intro fuel cs x hx hs
  obtain ⟨xs, n, _, rfl, hcl, hxl, hf⟩ := DataW.trod_struct ht hx
  obtain ⟨a, ha, hc⟩ := h n cs xs hcl (by simpa using hxl) (fun i f hi => hf i f (by simpa using hi)) (fun i f y hi hy => sized_field hs ht (j := i) (by simpa using hi) (by simp [List.getElem?_map, hy]))
  exact ⟨a, ha, by simpa using hc⟩

/-- a struct that came in -/
theorem agg_rv {es : List AV} {us : Array Value} (h : CellsRv w es us.toList) : RV w nov mZ (.agg es) (.agg us) :=
  .agg (by rw [h.1]; simp) (fun j y u hy hu => (h.2.1 j y u hy (by simpa using hu)).1)
end
end Go.Proofs.YtohjegemooakpaaGreat.Am
/- From a walk to a law's row: the arguments read behind the call as before, the result is true. -/
namespace Go.Proofs.YtohjegemooakpaaGreat
open Go.RowKit Go.WideShapes Go.ChangeShapes Go.ChangeAt
section
variable {H : Type} {enc : TypeId × Value → H} {P : Program}
theorem post_of_below {f : Func} {s : ChangeSpec} {apart fresh handsOn again : Bool} {W W' : World} {args : Array Value} {v : Value} {ds gs : List (DataW H)} {before pa pv : List MemPlace}
    (hW : DataW.Whole enc P f.params.toList s.vars apart W args.toList ds gs before)
    (hres : ∀ (b : Nat) (sp : Nat → Bool) (hd : Bool), DataW.TrodAll enc P W' b sp hd f.resultTypes.toList (v.resultList f.resultTypes.size) (s.fn H (ds ++ gs)).results [])
    (hargs : ∀ sp : Nat → Bool, (∀ p ∈ before, sp p.block = true) → DataW.TrodAll enc P W' 0 sp true f.params.toList args.toList (s.fn H (ds ++ gs)).args pa)
    (hvars : ∀ sp : Nat → Bool, (∀ p ∈ before, sp p.block = true) → DataW.TrodVars enc P W' sp s.vars (s.fn H (ds ++ gs)).vars pv)
    (hps : before = pa ++ pv) (hb : Below W.heap.size W W')
    (hok : ∀ (j : Nat) (t : TypeId) (r : Value), f.resultTypes[j]? = some t → (v.resultList f.resultTypes.size)[j]? = some r → Value.okWide P W' .any 0 t r) :
    s.post enc P f apart fresh handsOn again W args v W' := by
  have hlt : ∀ p ∈ before, p.block < W.heap.size := fun p hp => hW.lt p hp
  have hold : ∀ p ∈ before, (fun b => decide (b < W.heap.size)) p.block = true := fun p hp => by simpa using hlt p hp
  refine ⟨ds, gs, before, [], pa, pv, hW, hres _ _ _, hargs _ hold, hvars _ hold, World.keptBut_mono (fun p hp => ⟨hp, ?_⟩) (hb.frame (· ∈ before)), fun _ => ?_⟩
  · rw [hps, List.mem_append] at hp
    exact Or.inr hp
  · obtain ⟨_, _, _, _, _, hz, hn⟩ := hW
    refine ⟨hok, _, _, ([] ++ pa) ++ pv, ⟨[] ++ pa, pv, trodAll_append (hargs _ (fun _ _ => rfl)) (hres _ _ _), hvars _ (fun _ _ => rfl), rfl, ?_, ?_⟩, ?_⟩
    · intro b off hp
      have hin : MemPlace.cell b off ∈ before := by rw [hps]; simpa using hp
      rw [hb.frozen (hlt _ hin)]
      exact hz b off hin
    · intro ha
      have := hn ha
      rw [hps] at this
      simpa using this
    · intro p hp _
      rw [hps]
      simpa using hp

theorem trodAll_keep (hl : laidOutB P = true) {W W' : World} (hb : Below W.heap.size W W') (sp : Nat → Bool) (ts : List TypeId) : ∀ (vs : List Value) (ds : List (DataW H)) (ps : List MemPlace), (∀ t ∈ ts, P.readableRec t = true ∧ t < P.types.size) →
    DataW.TrodAll enc P W 0 (fun _ => true) true ts vs ds ps → (∀ x ∈ ps, x.block < W.heap.size) → (∀ x ∈ ps, sp x.block = true) → DataW.TrodAll enc P W' 0 sp true ts vs ds ps := by
  induction ts with
  | nil =>
    intro vs ds ps _ h _ _
    obtain ⟨rfl, rfl, rfl⟩ := trodAll_nil h
    exact trodAll_mk0
  | cons t ts ih =>
    intro vs ds ps hts h hlt hsp
    obtain ⟨v0, vs0, d0, ds0, p0, q0, rfl, rfl, rfl, h0, r0⟩ := trodAll_cons h
    obtain ⟨hr, hrow⟩ := hts t (by simp)
    exact trodAll_cons_mk (WideElems.Trod_stays hl hr hrow h0 (fun x hx => hb.same (hlt x (by simp [hx]))) (fun x hx => hsp x (by simp [hx])))
      (ih _ _ _ (fun t ht => hts t (by simp [ht])) r0 (fun x hx => hlt x (by simp [hx])) (fun x hx => hsp x (by simp [hx])))

/-- A LAW: it returned true, nothing that was there has turned. -/
theorem law_post (hl : laidOutB P = true) {f : Func} {s : ChangeSpec} {T : TypeId} {W W' : World} {args : Array Value} {ds : List (DataW H)} {before : List MemPlace}
    (hvars : s.vars = []) (hrt : f.resultTypes = #[T]) (hT : P.underlying T = some .bool) (hts : f.params.toList.all (fun t => P.readableRec t && decide (t < P.types.size)) = true)
    (hW : DataW.Whole enc P f.params.toList s.vars false W args.toList ds [] before) (hA : DataW.TrodAll enc P W 0 (fun _ => true) true f.params.toList args.toList ds before)
    (e1 : (s.fn H (ds ++ [])).results = [.lit (.bool true)]) (e2 : (s.fn H (ds ++ [])).args = ds) (e3 : (s.fn H (ds ++ [])).vars = []) (hb : Below W.heap.size W W') :
    s.post enc P f false true false false W args (.bool true) W' := by
  have hlt : ∀ x ∈ before, x.block < W.heap.size := fun x hx => hW.lt x hx
  refine post_of_below (pa := before) (pv := []) hW ?_ ?_ ?_ (by simp) hb ?_
  · intro b sp hd
    rw [e1, hrt]
    exact trodAll_cons_mk (shut_bool hT true) trodAll_mk0
  · intro sp hsp
    rw [e2]
    exact trodAll_keep hl hb sp _ _ _ _ (fun t ht => by simpa using List.all_eq_true.1 hts t ht) hA hlt hsp
  · intro sp hsp
    rw [e3, hvars]
    rfl
  · exact ok_one hrt rfl (okWide_bool_mk hT true)
end
end Go.Proofs.YtohjegemooakpaaGreat
/- Readers of the arguments of the laws about tasks. -/
namespace Go.Proofs.YtohjegemooakpaaGreat.Am
open Go.RowKit Go.ChangeShapes Go.WideShapes Go.Deep Go.Joins
section
variable {H : Type} {enc : TypeId × Value → H} {w : World} {base : Nat} {spare : Nat → Bool} {held : Bool}
theorem opens_conv {P : Program} {t : TypeId} {α β : Type} {en : α → List AV} {en2 : β → List AV} {R : α → Prop} {R2 : β → Prop} (f : α → β) (h : Opens enc P w base spare held t en R) (he : ∀ a, en2 (f a) = en a) (hR : ∀ a, R a → R2 (f a)) : Opens enc P w base spare held t en2 R2 := by
  intro fuel cs x hx hs
  obtain ⟨a, ha, hc⟩ := h fuel cs x hx hs
  exact ⟨f a, hR a ha, by rw [he]; exact hc⟩
theorem opens_str2 {P : Program} {t : TypeId} (ht : P.underlying t = some .string) : Opens enc P w base spare held t (fun s : ByteArray => [.c (.string s)]) (fun s => s.size ≤ 140737488355328) := by
  intro fuel cs x h hsz
  obtain ⟨s, rfl, rfl, -⟩ := DataW.trod_string ht h
  refine ⟨s, ?_, cells_one1 (.c _) rfl (.c _)⟩
  have h1 : s.data.toList.length ≤ 140737488355328 := Nat.le_trans (hsz s.data.toList.length (List.mem_singleton.2 rfl)) (by decide)
  rw [Array.length_toList] at h1
  exact h1
abbrev I64F (p : Fact) : Prop := (Lit.int .i64 p.1).wf = true ∧ (Lit.int .i64 p.2).wf = true
abbrev FactsR (l : List Fact) : Prop := l.length * 16 ≤ 140737488355328 ∧ ∀ p ∈ l, I64F p
abbrev EffR (e : GEffect) : Prop := FactsR e.When
abbrev OpR (o : GOp) : Prop := o.Name.size ≤ 140737488355328 ∧ FactsR o.Pre ∧ o.Effs.length * 40 ≤ 140737488355328 ∧ ∀ e ∈ o.Effs, EffR e
abbrev IntsR (l : List Int) : Prop := l.length * 8 ≤ 140737488355328 ∧ ∀ z ∈ l, (Lit.int .i64 z).wf = true
abbrev TaskR (t : GTask) : Prop := IntsR t.Vars ∧ IntsR t.Init ∧ FactsR t.Goal ∧ t.Ops.length * 72 ≤ 140737488355328 ∧ ∀ o ∈ t.Ops, OpR o
set_option maxRecDepth 100000 in
theorem oFact : Opens enc Tryz.prog w base spare held 68 cF I64F :=
  opens_struct Tryz.underlying68 (opensF_cons (off' := 1) rfl (by kernel_rfl) (opens_int Tryz.underlying3) (opensF_last rfl (by kernel_rfl) (opens_int Tryz.underlying3)))
set_option maxRecDepth 100000 in
theorem oFacts : Opens enc Tryz.prog w base spare held 23 (fun l : List Fact => [.sl 2 (l.map cF)]) FactsR :=
  opens_slice Tryz.underlying23 (by kernel_rfl) (by kernel_rfl) (by decide) (by decide) oFact
set_option maxRecDepth 100000 in
theorem oInts : Opens enc Tryz.prog w base spare held 22 (fun l : List Int => [.sl 1 (l.map cI)]) IntsR :=
  opens_slice Tryz.underlying22 (by kernel_rfl) (by kernel_rfl) (by decide) (by decide) (opens_int Tryz.underlying3)
set_option maxRecDepth 100000 in
theorem oEff : Opens enc Tryz.prog w base spare held 70 cGEffect EffR :=
  opens_conv (fun p : List Fact × (Int × Int) => { When := p.1, Var := p.2.1, Val := p.2.2 : GEffect })
    (opens_struct Tryz.underlying70 (opensF_cons (off' := 1) (en := fun l : List Fact => [AV.sl 2 (l.map cF)]) (R := FactsR) (en' := fun z : Int × Int => [AV.c (.int .i64 z.1)] ++ [AV.c (.int .i64 z.2)]) (R' := fun z : Int × Int => (Lit.int .i64 z.1).wf = true ∧ (Lit.int .i64 z.2).wf = true) rfl (by kernel_rfl) oFacts
      (opensF_cons (off' := 2) (en := fun z : Int => [AV.c (.int .i64 z)]) (R := fun z : Int => (Lit.int .i64 z).wf = true) (en' := fun z : Int => [AV.c (.int .i64 z)]) (R' := fun z : Int => (Lit.int .i64 z).wf = true) rfl (by kernel_rfl) (opens_int Tryz.underlying3) (opensF_last rfl (by kernel_rfl) (opens_int Tryz.underlying3)))))
    (fun _ => rfl) (fun _ h => h.1)
set_option maxRecDepth 100000 in
theorem oOp : Opens enc Tryz.prog w base spare held 73 cGOp OpR :=
  opens_conv (fun p : ByteArray × (Int × (List Fact × List GEffect)) => { Name := p.1, Cost := p.2.1, Pre := p.2.2.1, Effs := p.2.2.2 : GOp })
    (opens_struct Tryz.underlying73 (opensF_cons (off' := 1) (en := fun s : ByteArray => [AV.c (.string s)]) (R := fun s => s.size ≤ 140737488355328) (en' := fun p : Int × (List Fact × List GEffect) => [AV.c (.int .i64 p.1)] ++ ([AV.sl 2 (p.2.1.map cF)] ++ [AV.sl 3 (p.2.2.map cGEffect)])) (R' := fun p : Int × (List Fact × List GEffect) => (Lit.int .i64 p.1).wf = true ∧ (FactsR p.2.1 ∧ (p.2.2.length * 40 ≤ 140737488355328 ∧ ∀ e ∈ p.2.2, EffR e))) rfl (by kernel_rfl) (opens_str2 Tryz.underlying9)
      (opensF_cons (off' := 2) (en := fun z : Int => [AV.c (.int .i64 z)]) (R := fun z : Int => (Lit.int .i64 z).wf = true) (en' := fun p : List Fact × List GEffect => [AV.sl 2 (p.1.map cF)] ++ [AV.sl 3 (p.2.map cGEffect)]) (R' := fun p : List Fact × List GEffect => FactsR p.1 ∧ (p.2.length * 40 ≤ 140737488355328 ∧ ∀ e ∈ p.2, EffR e)) rfl (by kernel_rfl) (opens_int Tryz.underlying3)
        (opensF_cons (off' := 3) (en := fun l : List Fact => [AV.sl 2 (l.map cF)]) (R := FactsR) (en' := fun l : List GEffect => [AV.sl 3 (l.map cGEffect)]) (R' := fun l : List GEffect => l.length * 40 ≤ 140737488355328 ∧ ∀ e ∈ l, EffR e) rfl (by kernel_rfl) oFacts
          (opensF_last rfl (by kernel_rfl) (opens_slice Tryz.underlying71 (by kernel_rfl) (by kernel_rfl) (by decide) (by decide) oEff))))))
    (fun _ => rfl) (fun _ h => ⟨h.1, h.2.2.1, h.2.2.2⟩)
set_option maxRecDepth 100000 in
theorem oTask : Opens enc Tryz.prog w base spare held 26 cGTask TaskR :=
  opens_conv (fun p : List Int × (List Int × (List Fact × List GOp)) => { Vars := p.1, Init := p.2.1, Goal := p.2.2.1, Ops := p.2.2.2 : GTask })
    (opens_struct Tryz.underlying26 (opensF_cons (off' := 1) (en := fun l : List Int => [AV.sl 1 (l.map cI)]) (R := IntsR) (en' := fun p : List Int × (List Fact × List GOp) => [AV.sl 1 (p.1.map cI)] ++ ([AV.sl 2 (p.2.1.map cF)] ++ [AV.sl 4 (p.2.2.map cGOp)])) (R' := fun p : List Int × (List Fact × List GOp) => IntsR p.1 ∧ (FactsR p.2.1 ∧ (p.2.2.length * 72 ≤ 140737488355328 ∧ ∀ o ∈ p.2.2, OpR o))) rfl (by kernel_rfl) oInts
      (opensF_cons (off' := 2) (en := fun l : List Int => [AV.sl 1 (l.map cI)]) (R := IntsR) (en' := fun p : List Fact × List GOp => [AV.sl 2 (p.1.map cF)] ++ [AV.sl 4 (p.2.map cGOp)]) (R' := fun p : List Fact × List GOp => FactsR p.1 ∧ (p.2.length * 72 ≤ 140737488355328 ∧ ∀ o ∈ p.2, OpR o)) rfl (by kernel_rfl) oInts
        (opensF_cons (off' := 3) (en := fun l : List Fact => [AV.sl 2 (l.map cF)]) (R := FactsR) (en' := fun l : List GOp => [AV.sl 4 (l.map cGOp)]) (R' := fun l : List GOp => l.length * 72 ≤ 140737488355328 ∧ ∀ o ∈ l, OpR o) rfl (by kernel_rfl) oFacts
          (opensF_last rfl (by kernel_rfl) (opens_slice Tryz.underlying24 (by kernel_rfl) (by kernel_rfl) (by decide) (by decide) oOp))))))
    (fun _ => rfl) (fun _ h => h)
/-- a struct argument -/
theorem arg_struct {P : Program} {t : TypeId} {fs : Array Field} {α : Type} {en : α → List AV} {R : α → Prop} {r : Reach} {b0 : Nat} {v : Value} {d : DataW H} {p : List MemPlace} (ht : P.underlying t = some (.struct fs)) (hv : Value.okWide P w r b0 t v) (ho : Opens enc P w base spare held t en R) (h : DataW.Trod enc P w base spare held t v d p) (hs : Sized P t d) :
    ∃ a, R a ∧ RV w nov mZ (.agg (en a)) v := by
  obtain ⟨cs, rfl, hsz⟩ := okWide_struct ht hv
  obtain ⟨fuel, hf⟩ := h
  obtain ⟨a, ha, hc⟩ := ho fuel _ _ hf hs
  exact ⟨a, ha, agg_rv hc⟩
end
theorem TaskR.sh {t : GTask} (h : TaskR t) : ShT t := by
  obtain ⟨⟨h1, -⟩, ⟨h2, -⟩, ⟨h3, -⟩, h4, h5⟩ := h
  refine ⟨?_, ?_, ?_, ?_, fun o ho => ?_⟩
  · show _ ≤ _; omega
  · show _ ≤ _; omega
  · show _ ≤ _; omega
  · show _ ≤ _; omega
  · obtain ⟨g1, ⟨g2, -⟩, g3, g4⟩ := h5 o ho
    refine ⟨by omega, ?_, ?_, fun e he => ?_⟩
    · show _ ≤ _; omega
    · show _ ≤ _; omega
    · have := (g4 e he).1
      show _ ≤ _; omega
theorem FactsR.sh {l : List Fact} (h : FactsR l) : Sh l := by have := h.1; show _ ≤ _; omega
theorem law_of {f : FuncId} {args : List AV} {w : World} {cargs : Array Value} (h : ACall cx f args (.c (.bool true))) (hs : cargs.size = args.length) (hr : ∀ (j : Nat) (x : AV) (v : Value), args[j]? = some x → cargs[j]? = some v → RV w nov (mO (fun _ => False)) x v) :
    Calls Tryz.prog f cargs w fun e w' => e = .returned (.bool true) ∧ Below w.heap.size w w' := by
  refine Calls.mono (h.2 w (fun _ => False) cargs trivial (Nat.zero_le _) (fun b hb => hb.elim) hs hr) ?_
  rintro e w' ⟨v, rfl, h1, h2, _⟩
  rw [rv_c h1]
  exact ⟨rfl, ⟨h2.os, h2.tape, h2.output, h2.size, fun b hb => h2.block b hb (fun h => h)⟩⟩
end Go.Proofs.YtohjegemooakpaaGreat.Am
/- Reader of a certificate. -/
namespace Go.Proofs.YtohjegemooakpaaGreat.Am
open Go.RowKit Go.ChangeShapes Go.WideShapes Go.Deep Go.Joins
section
variable {H : Type} {enc : TypeId × Value → H} {w : World} {base : Nat} {spare : Nat → Bool} {held : Bool}
abbrev NogR (x : Nogood) : Prop := FactsR x.1 ∧ (Lit.int .i64 x.2).wf = true
abbrev CertR (c : GCertificate) : Prop := c.Nogoods.length * 32 ≤ 140737488355328 ∧ ∀ x ∈ c.Nogoods, NogR x
set_option maxRecDepth 100000 in
theorem oNogood : Opens enc Tryz.prog w base spare held 40 cN NogR :=
  opens_struct Tryz.underlying40 (opensF_cons (off' := 1) (en := fun l : List Fact => [AV.sl 2 (l.map cF)]) (R := FactsR) (en' := fun z : Int => [AV.c (.int .i64 z)]) (R' := fun z : Int => (Lit.int .i64 z).wf = true) rfl (by kernel_rfl) oFacts (opensF_last rfl (by kernel_rfl) (opens_int Tryz.underlying3)))
set_option maxRecDepth 100000 in
theorem oNogoods : Opens enc Tryz.prog w base spare held 29 (fun l : List Nogood => [.sl 2 (l.map cN)]) (fun l => l.length * 32 ≤ 140737488355328 ∧ ∀ x ∈ l, NogR x) :=
  opens_slice Tryz.underlying29 (by kernel_rfl) (by kernel_rfl) (by decide) (by decide) oNogood
set_option maxRecDepth 100000 in
theorem oCert : Opens enc Tryz.prog w base spare held 31 cGCertificate CertR :=
  opens_conv (fun p : Int × List Nogood => { Bound := p.1, Nogoods := p.2 : GCertificate })
    (opens_struct Tryz.underlying31 (opensF_cons (off' := 1) (en := fun z : Int => [AV.c (.int .i64 z)]) (R := fun z : Int => (Lit.int .i64 z).wf = true) (en' := fun l : List Nogood => [AV.sl 2 (l.map cN)]) (R' := fun l : List Nogood => l.length * 32 ≤ 140737488355328 ∧ ∀ x ∈ l, NogR x) rfl (by kernel_rfl) (opens_int Tryz.underlying3) (opensF_last rfl (by kernel_rfl) oNogoods)))
    (fun _ => rfl) (fun _ h => h.2)
end
theorem CertR.sh {c : GCertificate} (h : CertR c) : ShC c := by
  refine ⟨?_, fun n hn => ?_⟩
  · have := h.1; show _ ≤ _; omega
  · have := (h.2 n hn).1.1; show _ ≤ _; omega
end Go.Proofs.YtohjegemooakpaaGreat.Am
/- stratagemlaw32.CertifyJoins returns true for every input. No condition beyond the row's own. -/
namespace Go.Proofs.YtohjegemooakpaaGreat.rowJoins
open Go.ChangeShapes Go.WideShapes Go.ChangeAt Go.RowKit Am
theorem laidOut : laidOutB Tryz.prog = true := by kernel_rfl
set_option maxRecDepth 100000 in
theorem contract (H : Type) (enc : TypeId × Value → H) (W : World) (base : Nat) (args : Array Value) (ds gs : List (DataW H)) (before : List MemPlace)
    (hval : ∀ (j : Nat) t v, Tryz.f7.params[j]? = some t → args[j]? = some v → Value.okWide Tryz.prog W .any base t v)
    (hW : DataW.Whole enc Tryz.prog Tryz.f7.params.toList Rows.certifyJoinsSpec.vars false W args.toList ds gs before)
    (hsz : (DataW.weightsEach Tryz.prog (Tryz.f7.params.toList ++ (OpenSpec.ofChange Rows.certifyJoinsSpec).bare.plain.varTypes Tryz.prog) (ds ++ gs)).all (· ≤ reachBytes) = true) :
    Calls Tryz.prog 7 args W fun e W' => ∃ v, e = .returned v ∧ Rows.certifyJoinsSpec.post enc Tryz.prog Tryz.f7 false true false false W args v W' := by
  have hW' := hW
  obtain ⟨p, q, hA0, hV, rfl, hfz, hnd⟩ := hW
  have hA : DataW.TrodAll enc Tryz.prog W 0 (fun _ => true) true Tryz.f7.params.toList args.toList ds p := hA0
  rw [Tryz.params7] at hA hval
  obtain ⟨v0, vs0, d0, ds0, p0, q0, hargs, rfl, rfl, h0, r0⟩ := trodAll_cons hA
  obtain ⟨v1, vs1, d1, ds1, p1, q1, rfl, rfl, rfl, h1, r1⟩ := trodAll_cons r0
  obtain ⟨v2, vs2, d2, ds2, p2, q2, rfl, rfl, rfl, h2, r2⟩ := trodAll_cons r1
  obtain ⟨rfl, rfl, rfl⟩ := trodAll_nil r2
  obtain rfl : args = #[v0, v1, v2] := Array.ext' hargs
  obtain ⟨rfl, rfl⟩ := trodVars_none hV
  simp only [List.append_nil] at hW' hA0 hsz
  rw [Tryz.params7] at hsz
  obtain ⟨t, ht, k0⟩ := arg_struct Tryz.underlying26 (hval 0 26 v0 rfl rfl) oTask h0 (sized_arg hsz (j := 0) rfl rfl)
  obtain ⟨c, hc, k1⟩ := arg_struct Tryz.underlying31 (hval 1 31 v1 rfl rfl) oCert h1 (sized_arg hsz (j := 1) rfl rfl)
  obtain ⟨b, hb0, k2⟩ := arg_struct Tryz.underlying31 (hval 2 31 v2 rfl rfl) oCert h2 (sized_arg hsz (j := 2) rfl rfl)
  refine (law_of (A_l32_CertifyJoins 100 t c b (joins_true t ht.sh c b hc.sh hb0.sh)) rfl (fun j x v hx hv => ?_)).mono fun e W' ⟨he, hb⟩ => ?_
  · match j, hx, hv with
    | 0, hx, hv => simp at hx hv; subst hx hv; exact k0
    | 1, hx, hv => simp at hx hv; subst hx hv; exact k1
    | 2, hx, hv => simp at hx hv; subst hx hv; exact k2
    | j + 3, hx, hv => simp at hx
  · subst he
    exact ⟨_, rfl, law_post laidOut rfl (by kernel_rfl) Tryz.underlying4 (by kernel_rfl) hW' hA0 rfl rfl rfl hb⟩
theorem own : ownKnob Tryz.prog.godebug = none := by kernel_rfl
theorem laid_met (os : Os) : laidMet Tryz.prog Rows.certifyJoinsRow.laid ((World.holding Tryz.prog os ⟨#[], #[], []⟩).forCall (fun _ _ => 0) ⟨#[], #[.agg #[.slice none 0 0, .slice none 0 0, .slice none 0 0, .slice none 0 0], .agg #[.int .i64 0, .slice none 0 0], .agg #[.int .i64 0, .slice none 0 0]], []⟩).memory :=
  laidMet_of_run' 8 (by kernel_rfl) (by kernel_rfl)
theorem reads (os : Os) {H : Type} (enc : TypeId × Value → H) : ∃ places, DataW.whole enc Tryz.prog ((World.holding Tryz.prog os ⟨#[], #[], []⟩).forCall (fun _ _ => 0) ⟨#[], #[.agg #[.slice none 0 0, .slice none 0 0, .slice none 0 0, .slice none 0 0], .agg #[.int .i64 0, .slice none 0 0], .agg #[.int .i64 0, .slice none 0 0]], []⟩).memory Tryz.f7.params.toList Rows.certifyJoinsSpec.vars false (#[.agg #[.slice none 0 0, .slice none 0 0, .slice none 0 0, .slice none 0 0], .agg #[.int .i64 0, .slice none 0 0], .agg #[.int .i64 0, .slice none 0 0]] : Array Value).toList 8 = some ([.agg [.nil, .nil, .nil, .nil], .agg [.lit (.int .i64 0), .nil], .agg [.lit (.int .i64 0), .nil]], [], places) :=
  ⟨[], by kernel_rfl⟩

set_option maxRecDepth 100000 in
theorem lifted (os : Os) (started : os.Started) (H : Type) (enc : TypeId × Value → H) (F : Stop.Interp) :
    ReturnsInHanded {} Tryz.checked os 7 .any ((OpenSpec.ofChange Rows.certifyJoinsSpec).preRow enc Tryz.prog Tryz.f7 Rows.certifyJoinsRow.domain false Rows.certifyJoinsRow.laid) (((OpenSpec.ofChange Rows.certifyJoinsSpec).at F).post enc Tryz.prog Tryz.f7 false true false false) := by
  obtain ⟨places, hx⟩ := reads os enc
  refine returnsInHanded_of_row (C := Tryz.checked) (s := OpenSpec.ofChange Rows.certifyJoinsSpec) own started (by kernel_rfl) Tryz.func7
    (witness_row_at (enc := enc) (C := Tryz.checked) false (World.holding Tryz.prog os ⟨#[], #[], []⟩) #[.agg #[.slice none 0 0, .slice none 0 0, .slice none 0 0, .slice none 0 0], .agg #[.int .i64 0, .slice none 0 0], .agg #[.int .i64 0, .slice none 0 0]] rfl (by kernel_rfl) (by kernel_rfl) (by kernel_rfl)
      (OpenSpec.preRow_of_cond 8 hx (by kernel_rfl) (fun k hk => by cases hk) (by kernel_rfl) (laid_met os))) ?_
  intro W base args ds gs before hval hW _ _ hsz _ _ _
  exact contract H enc W base args ds gs before hval hW hsz

/-- THE STATEMENT. -/
theorem said : Rows.CertifyJoinsSaid :=
  OpenClaim.holds_of_cond 7 Tryz.f7 rfl rfl rfl rfl rfl rfl rfl ⟨rfl, rfl, rfl, rfl, rfl⟩ rfl rfl rfl rfl rfl (by kernel_rfl) Tryz.func7 (by kernel_rfl)
    (of_decide_eq_true (by kernel_rfl)) (by unfold Func.isWrapper; first | (rw [if_pos (by decide +kernel)]; kernel_rfl) | (rw [if_neg (by decide +kernel)]; exact ⟨rfl, rfl⟩))
    (fun os started H enc _ F => by rw [OpenClaim.pre_eq_preRow]; exact lifted os started H enc F)
end Go.Proofs.YtohjegemooakpaaGreat.rowJoins
