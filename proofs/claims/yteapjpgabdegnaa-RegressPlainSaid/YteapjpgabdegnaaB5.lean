/- stratagemlaw26.RegressPlain returns true for every input. No condition beyond the row's own. -/
import Derived.Test.YteapjpgabdegnaaB4
import Derived.Test.YteapjpgabdegnaaB3
import Derived.Test.YteapjpgabdegnaaB1
import Derived.Deep.Slices
import Derived.Deep.Fields
import Derived.ChangeSame
import Derived.SizedLaws
import Derived.Lib.SmallJoins
import Derived.Test.YteapjpgabdegnaaB2
import Derived.Below
import Derived.OpenShut
import Derived.Carry
import Derived.Test.YteapjpgabdegnaaRows
import Derived.Deep.DeepHandedRow
import Derived.Lib.LaidTab
/- Range loops of the models as recursions. -/
namespace Go.Proofs.Yteapjpgabdegnaa.Am
def M_b_Plain_L1_B (_ : GOp) (_y51 : GEffect) (_ : Int) : Unit → (Unit → Option (Unit ⊕ Bool)) → Option (Unit ⊕ Bool) := fun _ rc => ixv _y51 (fun y51 =>
       sel (decide (((y51.When.map cF).length : Int) > 0))
        (some (.inr false))
        (rc ()))
def M_b_Plain_L1_E (_ : GOp) : Unit → Option (Unit ⊕ Bool) := fun _ => some (.inl ())
theorem M_b_Plain_L1_rg (y45 : GOp) (hl : y45.Effs.length < 9223372036854775807) : ∀ (k n : Nat) , n ≤ y45.Effs.length → y45.Effs.length < k + n → M_b_Plain_L1 y45 k (n : Int) = Rg (M_b_Plain_L1_B y45) (M_b_Plain_L1_E y45) (y45.Effs.drop n) n () := by
  intro k n 
  refine rg_of (L := fun k i (p : Unit) => M_b_Plain_L1 y45 k i) hl (fun k n p y hy hn => ?_) (fun k p => ?_) k n ()
  · have h1 := lt_some hy
    have h2 := w64s hn
    first | (simp only [M_b_Plain_L1, M_b_Plain_L1_B, List.length_map, decide_lt h1, sel, ix_at hy, ixv, h2]; done) | (simp only [List.length_map] at h1 hy; simp only [M_b_Plain_L1, M_b_Plain_L1_B, List.length_map, decide_lt h1, sel, ix_at hy, ixv, h2]; done)
  · simp only [M_b_Plain_L1, M_b_Plain_L1_E, List.length_map, decide_ge, sel]
theorem M_b_Plain_L1_eq (y45 : GOp)  (hl : y45.Effs.length < 9223372036854775807) : M_b_Plain_L1 y45 (((y45.Effs.map cGEffect).length : Int).toNat + 1) 0 = Rg (M_b_Plain_L1_B y45) (M_b_Plain_L1_E y45) y45.Effs 0 () := by
  have h := M_b_Plain_L1_rg y45 hl (y45.Effs.length + 1) 0  (Nat.zero_le _) (by omega)
  rw [List.length_map, Int.toNat_natCast]
  exact h
def M_b_Plain_L2_B (_ : GTask) (_y45 : GOp) (_ : Int) : Unit → (Unit → Option (Bool)) → Option (Bool) := fun _ rc => ob1 (ixv _y45 (fun y45 =>
        M_b_Plain_L1 y45 ((((y45.Effs.map cGEffect).length : Int)).toNat + 1) 0) : Option (Unit ⊕ Bool))
       (osum
       (fun _ => rc ())
       (fun r43 => some r43))
def M_b_Plain_L2_E (_ : GTask) : Unit → Option (Bool) := fun _ => some true
theorem M_b_Plain_L2_rg (a0 : GTask) (hl : a0.Ops.length < 9223372036854775807) : ∀ (k n : Nat) , n ≤ a0.Ops.length → a0.Ops.length < k + n → M_b_Plain_L2 a0 k (n : Int) = Rg (M_b_Plain_L2_B a0) (M_b_Plain_L2_E a0) (a0.Ops.drop n) n () := by
  intro k n 
  refine rg_of (L := fun k i (p : Unit) => M_b_Plain_L2 a0 k i) hl (fun k n p y hy hn => ?_) (fun k p => ?_) k n ()
  · have h1 := lt_some hy
    have h2 := w64s hn
    first | (simp only [M_b_Plain_L2, M_b_Plain_L2_B, List.length_map, decide_lt h1, sel, ix_at hy, ixv, h2]; done) | (simp only [List.length_map] at h1 hy; simp only [M_b_Plain_L2, M_b_Plain_L2_B, List.length_map, decide_lt h1, sel, ix_at hy, ixv, h2]; done)
  · simp only [M_b_Plain_L2, M_b_Plain_L2_E, List.length_map, decide_ge, sel]
theorem M_b_Plain_L2_eq (a0 : GTask)  (hl : a0.Ops.length < 9223372036854775807) : M_b_Plain_L2 a0 (((a0.Ops.map cGOp).length : Int).toNat + 1) 0 = Rg (M_b_Plain_L2_B a0) (M_b_Plain_L2_E a0) a0.Ops 0 () := by
  have h := M_b_Plain_L2_rg a0 hl (a0.Ops.length + 1) 0  (Nat.zero_le _) (by omega)
  rw [List.length_map, Int.toNat_natCast]
  exact h
def M_l26_RegressPlain_L1_B (_ : GOp) (_y43 : Fact) (_ : Int) : ((List (Int × Int))) → (((List (Int × Int))) → Option (List (Int × Int))) → Option (List (Int × Int)) := fun v41 rc => ixv _y43 (fun y43 =>
       rc ((setM v41 y43.1 y43.2)))
def M_l26_RegressPlain_L1_E (_ : GOp) : ((List (Int × Int))) → Option (List (Int × Int)) := fun v41 => some v41
theorem M_l26_RegressPlain_L1_rg (y35 : GOp) (hl : y35.Pre.length < 9223372036854775807) : ∀ (k n : Nat) (v41 : List (Int × Int)), n ≤ y35.Pre.length → y35.Pre.length < k + n → M_l26_RegressPlain_L1 y35 k (n : Int) v41 = Rg (M_l26_RegressPlain_L1_B y35) (M_l26_RegressPlain_L1_E y35) (y35.Pre.drop n) n v41 := by
  intro k n v41
  refine rg_of (L := fun k i (p : ((List (Int × Int)))) => match p with | v41 => M_l26_RegressPlain_L1 y35 k i v41) hl (fun k n p y hy hn => ?_) (fun k p => ?_) k n v41
  · have h1 := lt_some hy
    have h2 := w64s hn
    first | (simp only [M_l26_RegressPlain_L1, M_l26_RegressPlain_L1_B, List.length_map, decide_lt h1, sel, ix_at hy, ixv, h2]; done) | (simp only [List.length_map] at h1 hy; simp only [M_l26_RegressPlain_L1, M_l26_RegressPlain_L1_B, List.length_map, decide_lt h1, sel, ix_at hy, ixv, h2]; done)
  · simp only [M_l26_RegressPlain_L1, M_l26_RegressPlain_L1_E, List.length_map, decide_ge, sel]
theorem M_l26_RegressPlain_L1_eq (y35 : GOp) (v41 : List (Int × Int)) (hl : y35.Pre.length < 9223372036854775807) : M_l26_RegressPlain_L1 y35 (((y35.Pre.map cF).length : Int).toNat + 1) 0 v41 = Rg (M_l26_RegressPlain_L1_B y35) (M_l26_RegressPlain_L1_E y35) y35.Pre 0 v41 := by
  have h := M_l26_RegressPlain_L1_rg y35 hl (y35.Pre.length + 1) 0 v41 (Nat.zero_le _) (by omega)
  rw [List.length_map, Int.toNat_natCast]
  exact h
def M_l26_RegressPlain_L2_B (y328 : Fact) (_ : GOp) (_y348 : GEffect) (_ : Int) : ((Int)) → (((Int)) → Option (Int)) → Option (Int) := fun v345 rc => ixv _y348 (fun y348 =>
       sel (y348.Var == y328.1)
        (rc (y348.Val))
        (rc (v345)))
def M_l26_RegressPlain_L2_E (_ : Fact) (_ : GOp) : ((Int)) → Option (Int) := fun v345 => some v345
theorem M_l26_RegressPlain_L2_rg (y328 : Fact) (y340 : GOp) (hl : y340.Effs.length < 9223372036854775807) : ∀ (k n : Nat) (v345 : Int), n ≤ y340.Effs.length → y340.Effs.length < k + n → M_l26_RegressPlain_L2 y328 y340 k v345 (n : Int) = Rg (M_l26_RegressPlain_L2_B y328 y340) (M_l26_RegressPlain_L2_E y328 y340) (y340.Effs.drop n) n v345 := by
  intro k n v345
  refine rg_of (L := fun k i (p : ((Int))) => match p with | v345 => M_l26_RegressPlain_L2 y328 y340 k v345 i) hl (fun k n p y hy hn => ?_) (fun k p => ?_) k n v345
  · have h1 := lt_some hy
    have h2 := w64s hn
    first | (simp only [M_l26_RegressPlain_L2, M_l26_RegressPlain_L2_B, List.length_map, decide_lt h1, sel, ix_at hy, ixv, h2]; done) | (simp only [List.length_map] at h1 hy; simp only [M_l26_RegressPlain_L2, M_l26_RegressPlain_L2_B, List.length_map, decide_lt h1, sel, ix_at hy, ixv, h2]; done)
  · simp only [M_l26_RegressPlain_L2, M_l26_RegressPlain_L2_E, List.length_map, decide_ge, sel]
theorem M_l26_RegressPlain_L2_eq (y328 : Fact) (y340 : GOp) (v345 : Int) (hl : y340.Effs.length < 9223372036854775807) : M_l26_RegressPlain_L2 y328 y340 (((y340.Effs.map cGEffect).length : Int).toNat + 1) v345 0 = Rg (M_l26_RegressPlain_L2_B y328 y340) (M_l26_RegressPlain_L2_E y328 y340) y340.Effs 0 v345 := by
  have h := M_l26_RegressPlain_L2_rg y328 y340 hl (y340.Effs.length + 1) 0 v345 (Nat.zero_le _) (by omega)
  rw [List.length_map, Int.toNat_natCast]
  exact h
def M_l26_RegressPlain_L3_B (a0 : GTask) (a1 : Int) (_ : List Fact) (z21 : List (List Fact)) (_y328 : Fact) (_ : Int) : ((List (Int × Int))) → (((List (Int × Int))) → Option ((List (Int × Int)) ⊕ Bool)) → Option ((List (Int × Int)) ⊕ Bool) := fun v300 rc => ob1 (ixv _y328 (fun y328 =>
        ob1 (ix a0.Ops ((IntKind.i64.wrap a1).tmod ((a0.Ops.map cGOp).length : Int)) (fun y340 =>
          M_l26_RegressPlain_L2 y328 y340 ((((y340.Effs.map cGEffect).length : Int)).toNat + 1) (-1) 0) : Option (Int))
         (fun v338 => ob1 (sel (decide (v338 ≥ 0))
             (sel (v338 != y328.2)
               (some (.inr (((z21.map cL_cF).length : Int) == 0)))
               (some (.inl ())))
             (some (.inl ())) : Option (Unit ⊕ Bool))
            (osum
            (fun _ => sel (decide (v338 < 0))
               (sel ((getM v300 y328.1).isSome)
                 (sel (((getM v300 y328.1).getD 0) != y328.2)
                   (some (.inr (((z21.map cL_cF).length : Int) == 0)))
                   (some (.inl (setM v300 y328.1 y328.2))))
                 (some (.inl (setM v300 y328.1 y328.2))))
               (some (.inl v300)))
            (fun r349 => some (.inr r349))))) : Option ((List (Int × Int)) ⊕ Bool))
       (osum
       (fun v325 => rc (v325))
       (fun r326 => some (.inr r326)))
def M_l26_RegressPlain_L3_E (_ : GTask) (_ : Int) (_ : List Fact) (_ : List (List Fact)) : ((List (Int × Int))) → Option ((List (Int × Int)) ⊕ Bool) := fun v300 => some (.inl v300)
theorem M_l26_RegressPlain_L3_rg (a0 : GTask) (a1 : Int) (a2 : List Fact) (z21 : List (List Fact)) (hl : a2.length < 9223372036854775807) : ∀ (k n : Nat) (v300 : List (Int × Int)), n ≤ a2.length → a2.length < k + n → M_l26_RegressPlain_L3 a0 a1 a2 z21 k (n : Int) v300 = Rg (M_l26_RegressPlain_L3_B a0 a1 a2 z21) (M_l26_RegressPlain_L3_E a0 a1 a2 z21) (a2.drop n) n v300 := by
  intro k n v300
  refine rg_of (L := fun k i (p : ((List (Int × Int)))) => match p with | v300 => M_l26_RegressPlain_L3 a0 a1 a2 z21 k i v300) hl (fun k n p y hy hn => ?_) (fun k p => ?_) k n v300
  · have h1 := lt_some hy
    have h2 := w64s hn
    first | (simp only [M_l26_RegressPlain_L3, M_l26_RegressPlain_L3_B, List.length_map, decide_lt h1, sel, ix_at hy, ixv, h2]; done) | (simp only [List.length_map] at h1 hy; simp only [M_l26_RegressPlain_L3, M_l26_RegressPlain_L3_B, List.length_map, decide_lt h1, sel, ix_at hy, ixv, h2]; done)
  · simp only [M_l26_RegressPlain_L3, M_l26_RegressPlain_L3_E, List.length_map, decide_ge, sel]
theorem M_l26_RegressPlain_L3_eq (a0 : GTask) (a1 : Int) (a2 : List Fact) (z21 : List (List Fact)) (v300 : List (Int × Int)) (hl : a2.length < 9223372036854775807) : M_l26_RegressPlain_L3 a0 a1 a2 z21 (((a2.map cF).length : Int).toNat + 1) 0 v300 = Rg (M_l26_RegressPlain_L3_B a0 a1 a2 z21) (M_l26_RegressPlain_L3_E a0 a1 a2 z21) a2 0 v300 := by
  have h := M_l26_RegressPlain_L3_rg a0 a1 a2 z21 hl (a2.length + 1) 0 v300 (Nat.zero_le _) (by omega)
  rw [List.length_map, Int.toNat_natCast]
  exact h
def M_l26_RegressPlain_L4_B (v196 : List (Int × Int)) (_ : List Fact) (_y361 : Fact) (_ : Int) : Unit → (Unit → Option (Bool)) → Option (Bool) := fun _ rc => ixv _y361 (fun y361 =>
       sel (!((getM v196 y361.1).isSome))
        (some false)
        (sel (((getM v196 y361.1).getD 0) != y361.2)
          (some false)
          (rc ())))
def M_l26_RegressPlain_L4_E (_ : List (Int × Int)) (_ : List Fact) : Unit → Option (Bool) := fun _ => some true
theorem M_l26_RegressPlain_L4_rg (v196 : List (Int × Int)) (y355 : List Fact) (hl : y355.length < 9223372036854775807) : ∀ (k n : Nat) , n ≤ y355.length → y355.length < k + n → M_l26_RegressPlain_L4 v196 y355 k (n : Int) = Rg (M_l26_RegressPlain_L4_B v196 y355) (M_l26_RegressPlain_L4_E v196 y355) (y355.drop n) n () := by
  intro k n 
  refine rg_of (L := fun k i (p : Unit) => M_l26_RegressPlain_L4 v196 y355 k i) hl (fun k n p y hy hn => ?_) (fun k p => ?_) k n ()
  · have h1 := lt_some hy
    have h2 := w64s hn
    first | (simp only [M_l26_RegressPlain_L4, M_l26_RegressPlain_L4_B, List.length_map, decide_lt h1, sel, ix_at hy, ixv, h2]; done) | (simp only [List.length_map] at h1 hy; simp only [M_l26_RegressPlain_L4, M_l26_RegressPlain_L4_B, List.length_map, decide_lt h1, sel, ix_at hy, ixv, h2]; done)
  · simp only [M_l26_RegressPlain_L4, M_l26_RegressPlain_L4_E, List.length_map, decide_ge, sel]
theorem M_l26_RegressPlain_L4_eq (v196 : List (Int × Int)) (y355 : List Fact)  (hl : y355.length < 9223372036854775807) : M_l26_RegressPlain_L4 v196 y355 (((y355.map cF).length : Int).toNat + 1) 0 = Rg (M_l26_RegressPlain_L4_B v196 y355) (M_l26_RegressPlain_L4_E v196 y355) y355 0 () := by
  have h := M_l26_RegressPlain_L4_rg v196 y355 hl (y355.length + 1) 0  (Nat.zero_le _) (by omega)
  rw [List.length_map, Int.toNat_natCast]
  exact h
end Go.Proofs.Yteapjpgabdegnaa.Am
/- Plain law: RegressPlain. -/
namespace Go.Proofs.Yteapjpgabdegnaa.Am
open Go.RowKit
def plainF (t : GTask) : Bool := t.Ops.all fun o => o.Effs.all fun e => decide (¬ ((e.When.length : Int) > 0))
theorem plain_eq (t : GTask) (ht : ShT t) : M_b_Plain t = some (plainF t) := by
  rw [M_b_Plain, M_b_Plain_L2_eq t ht.ops.lt, rg_all (p := fun o : GOp => o.Effs.all fun e => decide (¬ ((e.When.length : Int) > 0))) (c := some false), M_b_Plain_L2_E, plainF]
  · cases t.Ops.all fun o => o.Effs.all fun e => decide (¬ ((e.When.length : Int) > 0)) <;> rfl
  · intro o ho i rc
    rw [M_b_Plain_L2_B, ixv, M_b_Plain_L1_eq o (ht.op o ho).effs.lt, rg_all (p := fun e : GEffect => decide (¬ ((e.When.length : Int) > 0))) (c := some (.inr false)), M_b_Plain_L1_E]
    · cases o.Effs.all fun e => decide (¬ ((e.When.length : Int) > 0)) <;> rfl
    · intro e _ i rc
      rw [M_b_Plain_L1_B, ixv, sel_dec, List.length_map]
      by_cases h : (e.When.length : Int) > 0
      · rw [if_pos h, decide_eq_false (fun hn => hn h), if_neg (by decide)]
      · rw [if_neg h, decide_eq_true h, if_pos rfl]
theorem plain_op {t : GTask} (h : plainF t = true) {o : GOp} (ho : o ∈ t.Ops) : PlainE o.Effs := fun e he => by
  unfold plainF at h
  have := of_decide_eq_true (List.all_eq_true.1 (List.all_eq_true.1 h o ho) e he)
  exact List.length_eq_zero_iff.1 (by omega)
theorem pl1 (o : GOp) : ∀ (r : List Fact) (i : Int) (M : List (Int × Int)), Rg (M_l26_RegressPlain_L1_B o) (M_l26_RegressPlain_L1_E o) r i M = some (setsM r M)
  | [], i, M => rfl
  | f :: r, i, M => by rw [Rg, M_l26_RegressPlain_L1_B, ixv, pl1 o r]; rfl
theorem pl2 (f : Fact) (o : GOp) : ∀ (r : List GEffect) (i a : Int), Rg (M_l26_RegressPlain_L2_B f o) (M_l26_RegressPlain_L2_E f o) r i a = some (lastF f.1 r a)
  | [], i, a => rfl
  | e :: r, i, a => by
    rw [Rg, M_l26_RegressPlain_L2_B, ixv, lastF]
    cases e.Var == f.1 with
    | true => rw [sel_tt, pl2 f o r, if_pos rfl]
    | false => rw [sel_ff, pl2 f o r, if_neg (by decide)]
theorem pl3 {t : GTask} {k : Int} {o : GOp} {j : Nat} (hj : (IntKind.i64.wrap k).tmod (t.Ops.length : Int) = (j : Int)) (ho : t.Ops[j]? = some o) (hes : o.Effs.length < 9223372036854775807) (p : List Fact) (l : List (List Fact)) : ∀ (r : List Fact) (i : Int) (M : List (Int × Int)),
    Rg (M_l26_RegressPlain_L3_B t k p l) (M_l26_RegressPlain_L3_E t k p l) r i M = some (match needP o.Effs r M with | some M' => .inl M' | none => .inr ((l.length : Int) == 0))
  | [], i, M => rfl
  | f :: r, i, M => by
    rw [Rg, M_l26_RegressPlain_L3_B]
    have hj' : (IntKind.i64.wrap k).tmod ((t.Ops.map cGOp).length : Int) = (j : Int) := by rw [List.length_map]; exact hj
    simp only [ixv]
    rw [hj', ix_at ho, M_l26_RegressPlain_L2_eq f o (-1) hes, pl2, ob1_some, sel_dec, sel_dec, needP, List.length_map]
    have ih := pl3 hj ho hes p l r
    by_cases h1 : lastF f.1 o.Effs (-1) ≥ 0
    · rw [if_pos h1]
      by_cases h2 : lastF f.1 o.Effs (-1) = f.2
      · rw [show (lastF f.1 o.Effs (-1) != f.2) = false from by simp [h2], sel_ff, ob1_some, osum_inl, if_neg (by omega), ob1_some, osum_inl, if_neg (fun hh => hh.2 h2), if_neg (by omega)]
        exact ih _ M
      · rw [show (lastF f.1 o.Effs (-1) != f.2) = true from by simp [h2], sel_tt, ob1_some, osum_inr, ob1_some, osum_inr, if_pos ⟨h1, h2⟩]
    · rw [if_neg h1, ob1_some, osum_inl, if_pos (by omega), if_neg (fun hh => h1 hh.1), if_pos (by omega)]
      cases hg : getM M f.1 with
      | none => rw [show (none : Option Int).isSome = false from rfl, sel_ff, ob1_some, osum_inl, if_neg (fun hh => by cases hh.1)]; exact ih _ _
      | some y =>
        rw [show (some y).isSome = true from rfl, sel_tt, Option.getD_some]
        by_cases hy : y = f.2
        · rw [show (y != f.2) = false from by simp [hy], sel_ff, ob1_some, osum_inl, if_neg (fun hh => hh.2 hy)]; exact ih _ _
        · rw [show (y != f.2) = true from by simp [hy], sel_tt, ob1_some, osum_inr, if_pos ⟨rfl, hy⟩]
theorem pl4 {M : List (Int × Int)} {b : List Fact} (h : RelM M b) (z : List Fact) : ∀ (r : List Fact) (i : Int), (∀ f ∈ r, f ∈ b) → Rg (M_l26_RegressPlain_L4_B M z) (M_l26_RegressPlain_L4_E M z) r i () = some true
  | [], i, _ => rfl
  | f :: r, i, hb => by
    have hg : getM M f.1 = some f.2 := (getM_mem h.nd).2 ((h.mem f).2 (hb f (List.mem_cons_self ..)))
    rw [Rg, M_l26_RegressPlain_L4_B, ixv, hg, show (!(some f.2).isSome) = false from rfl, sel_ff, Option.getD_some, show (f.2 != f.2) = false from by simp, sel_ff]
    exact pl4 h z r _ fun x hx => hb x (List.mem_cons_of_mem _ hx)
theorem erMn {γ : Type} {x : Option γ} {f : Int → Option γ} : erM Er.nil x f = x := rfl
theorem pick {n : Nat} {k : Int} (hk : 0 ≤ k ∧ k ≤ 255) (hn : 0 < n) : ∃ j : Nat, (IntKind.i64.wrap k).tmod (n : Int) = (j : Int) ∧ j < n := by
  rw [w64 (by omega) (by omega)]
  refine ⟨k.toNat % n, ?_, Nat.mod_lt _ hn⟩
  obtain ⟨m, rfl⟩ : ∃ m : Nat, k = m := ⟨k.toNat, by omega⟩
  rw [Int.toNat_natCast]
  rfl
theorem plain_true (g : Nat) (hg : 70 ≤ g) (t : GTask) (ht : ShT t) (k : Int) (hk : 0 ≤ k ∧ k ≤ 255) (p : List Fact) (hp : Sh p) : M_l26_RegressPlain g t k p = some true := by
  have aw := awake_eq g hg
  rw [M_l26_RegressPlain, small_eq t ht, ob1_some, aw]
  cases hs : smallF t with
  | false => rfl
  | true =>
    obtain ⟨hgood, hv, ho⟩ := small_good hs
    have ok := good_ok hgood
    have h8 : ∀ o ∈ t.Ops, o.Effs.length ≤ 8 := by
      unfold smallF at hs
      simp only [Bool.and_eq_true, List.all_eq_true, decide_eq_true_iff] at hs
      exact hs.2.1
    rw [Bool.not_true, sel_ff, List.length_map]
    by_cases h0 : t.Ops.length = 0
    · rw [show ((t.Ops.length : Int) == 0) = true from by simp [h0]]; rfl
    rw [show ((t.Ops.length : Int) == 0) = false from by simp; exact fun h => h0 (by rw [h]; rfl), sel_ff, proper_eq _ _ hp, ob1_some]
    cases hf : propF t.Vars (-1) p with
    | false => rfl
    | true =>
      rw [Bool.not_true, sel_ff, plain_eq t ht, ob1_some]
      cases hpl : plainF t with
      | false => rfl
      | true =>
        obtain ⟨j, hj, hjl⟩ := pick hk (n := t.Ops.length) (by omega)
        obtain ⟨o, hoj, -⟩ := drop_at (l := t.Ops) hjl
        have hom := List.mem_of_getElem? hoj
        have oo := good_op hgood hom
        have hes := h8 o hom
        have hval : ∀ e ∈ o.Effs, 0 ≤ e.Val := fun e he => by
          have h := hgood
          unfold goodF at h
          simp only [Bool.and_eq_true, List.all_eq_true] at h
          have h1 := h.2.2.2.2 o hom
          unfold opF at h1
          simp only [Bool.and_eq_true, decide_eq_true_iff, List.all_eq_true] at h1
          have h2 := h1.2.2.2 e he
          unfold effF at h2
          have h3 := ((vF_iff' _).1 (propF_vF' (Bool.and_eq_true _ _ ▸ h2).2)).1 _ (List.mem_singleton.2 rfl)
          exact h3.2
        obtain ⟨l, hl, hcase⟩ := regO_plain hgood hom (plain_op hpl hom) hval hes hf
        rw [Bool.not_true, sel_ff, ob1_some, Bool.not_true, sel_ff, ob1_some, osum_inl, grd_t (by omega), hj, regress_eq t ht hgood p hf g hg (j : Int) o (by omega) (by rw [Int.toNat_natCast]; exact hoj), hl, resR, ob2_some, erMn, ix_at hoj,
          M_l26_RegressPlain_L1_eq o [] (by have := prop_len ok.len oo.pre; omega), pl1, ob1_some, M_l26_RegressPlain_L3_eq t k p l _ hp.lt, pl3 hj hoj (by omega) p l, ob1_some]
        rcases hcase with ⟨e1, rfl⟩ | ⟨M, b, e1, rfl, hrel, hlen, hbp⟩
        · rw [e1]; rfl
        · rw [e1, osum_inl, show (((([b] : List (List Fact)).map cL_cF).length : Int) != 1) = false from rfl, sel_ff, show ix [b] 0 = ix [b] ((0 : Nat) : Int) from rfl, ix_at (y := b) rfl, show (((b.map cF).length : Int) != ((M.length : Nat) : Int)) = false from by simp [hlen], sel_ff, ob1_some, osum_inl, show ix [b] 0 = ix [b] ((0 : Nat) : Int) from rfl, ix_at (y := b) rfl,
            M_l26_RegressPlain_L4_eq M b (by
              have hbl := prop_len ok.len hbp
              omega), pl4 hrel b b 0 fun _ h => h]
end Go.Proofs.Yteapjpgabdegnaa.Am
/- Opening arguments: slices of numbers, of facts, of nogoods, a certificate. -/
namespace Go.Proofs.Yteapjpgabdegnaa
open Go.RowKit Go.ChangeShapes Go.WideShapes Go.Deep Go.Joins

def I64 (x : Int) : Prop := -9223372036854775808 ≤ x ∧ x ≤ 9223372036854775807
theorem I64.of {x : Int} (h : (Lit.int .i64 x).wf = true) : I64 x := by
  have := bounds_i64 h
  exact this

section
variable {H : Type} {enc : TypeId × Value → H} {P : Program} {w : World} {base : Nat} {spare : Nat → Bool} {held : Bool}

/-- within the form's reach -/
def Sized (P : Program) (t : TypeId) (d : DataW H) : Prop := ∀ n ∈ d.weights P t, n ≤ reachBytes
theorem sized_arg {ts : List TypeId} {ds : List (DataW H)} (h : (DataW.weightsEach P ts ds).all (· ≤ reachBytes) = true) {j : Nat} {t : TypeId} {d : DataW H} (ht : ts[j]? = some t) (hd : ds[j]? = some d) : Sized P t d :=
  fun n hn => of_decide_eq_true (List.all_eq_true.1 h n (DataW.weights_mem_each ht hd n hn))
theorem sized_field {t : TypeId} {fs : Array Field} {parts : List (DataW H)} (h : Sized P t (.agg parts)) (hu : P.underlying t = some (.struct fs)) {j : Nat} {f : Field} {d : DataW H} (hf : fs[j]? = some f) (hd : parts[j]? = some d) : Sized P f.type d :=
  fun n hn => h n (by
    simp only [DataW.weights, hu]
    exact DataW.weights_mem_each (j := j) (by simp [List.getElem?_map, hf]) hd n hn)
theorem weightsAll_mem {e : TypeId} : ∀ {l : List (DataW H)} {d : DataW H}, d ∈ l → ∀ n ∈ d.weights P e, n ∈ DataW.weightsAll P e l
  | x :: l, d, hd, n, hn => by
    simp only [DataW.weightsAll, List.mem_append]
    rcases List.mem_cons.1 hd with rfl | h
    · exact Or.inl hn
    · exact Or.inr (weightsAll_mem h n hn)
theorem sized_elem {t e : TypeId} {elems sp : List (DataW H)} (h : Sized P t (.slice elems sp)) (hu : P.underlying t = some (.slice e)) {d : DataW H} (hd : d ∈ elems) : Sized P e d :=
  fun n hn => h n (by
    simp only [DataW.weights, hu, List.mem_cons, List.mem_append]
    exact Or.inr (Or.inl (weightsAll_mem hd n hn)))
theorem sized_len {t e : TypeId} {elems sp : List (DataW H)} (h : Sized P t (.slice elems sp)) (hu : P.underlying t = some (.slice e)) : elems.length * P.bytesOf e ≤ 140737488355328 := by
  have h1 := h ((elems.length + sp.length) * P.bytesOf e) (by simp [DataW.weights, hu])
  have h2 : elems.length * P.bytesOf e ≤ (elems.length + sp.length) * P.bytesOf e := Nat.mul_le_mul_right _ (by omega)
  have h3 : reachBytes ≤ 140737488355328 := by decide
  omega

end

theorem spot_of_cell {w : World} {p : Addr} {v : Value} (h : w.cell? p = some v) : p.spot = none := by
  unfold World.cell? at h
  split at h
  · split at h
    · cases h
    · rename_i hs; simpa using hs
  · cases h
theorem addr_of_cell {w : World} {a : Addr} {k : Nat} {v : Value} (h0 : ∃ u, w.cell? (a.add 0) = some u) (h : w.cell? (a.add k) = some v) : a = ⟨a.block, a.off, none⟩ ∧ w.cell? ⟨a.block, a.off + k, none⟩ = some v := by
  obtain ⟨u, hu⟩ := h0
  have hs := spot_of_cell hu
  obtain ⟨b, off, sp⟩ := a
  simp [Addr.add] at hs
  subst hs
  refine ⟨rfl, ?_⟩
  rw [← h]
  congr 1
  unfold Addr.add
  split
  · subst k; rfl
  · rfl

theorem list_of {α : Type} (n : Nat) (R : Nat → α → Prop) (h : ∀ i, i < n → ∃ x, R i x) : ∃ l : List α, l.length = n ∧ ∀ k x, l[k]? = some x → R k x := by
  induction n with
  | zero => exact ⟨[], rfl, fun k x hx => by simp at hx⟩
  | succ n ih =>
    obtain ⟨l, hl, hr⟩ := ih (fun i hi => h i (by omega))
    obtain ⟨x, hx⟩ := h n (by omega)
    refine ⟨l ++ [x], by simp [hl], fun k y hy => ?_⟩
    by_cases hk : k < n
    · rw [List.getElem?_append_left (by omega)] at hy
      exact hr k y hy
    · rw [List.getElem?_append_right (by omega)] at hy
      have hk' : k - l.length = 0 := by
        have := (List.getElem?_eq_some_iff.1 hy).1
        simp at this
        omega
      rw [hk'] at hy
      simp at hy
      subst hy
      obtain rfl : k = n := by omega
      exact hx

variable {H : Type} {enc : TypeId × Value → H} {w : World} {base : Nat} {spare : Nat → Bool} {held : Bool}
end Go.Proofs.Yteapjpgabdegnaa
/- Opening arguments for the abstract machine: readers that compose. -/
namespace Go.Proofs.Yteapjpgabdegnaa.Am
open Go.RowKit Go.ChangeShapes Go.WideShapes Go.Deep Go.Joins

/-- nothing is owned at the start -/
abbrev mZ : MM := mO (fun _ => False)
theorem noZ (b : Nat) : ¬ Owned nov mZ b := fun h => owned_nov.1 h

section
variable {H : Type} {enc : TypeId × Value → H} {P : Program} {w : World} {base : Nat} {spare : Nat → Bool} {held : Bool}
/-- cells that stand for the values -/
def CellsRv (w : World) (es : List AV) (cs : List Value) : Prop := es.length = cs.length ∧ (∀ (j : Nat) (y : AV) (u : Value), es[j]? = some y → cs[j]? = some u → RV w nov mZ y u ∧ u.oneCell' = true) ∧ ∀ y ∈ es, Fr y
/-- data of type t read as an α -/
def Opens (enc : TypeId × Value → H) (P : Program) (w : World) (base : Nat) (spare : Nat → Bool) (held : Bool) (t : TypeId) {α : Type} (en : α → List AV) (R : α → Prop) : Prop :=
  ∀ (fuel : Nat) (cs : List Value) (x : DataW H × List MemPlace), DataW.trod enc P w base spare held fuel t cs = some x → Sized P t x.1 → ∃ a, R a ∧ CellsRv w (en a) cs

theorem cells_one1 {y : AV} {u : Value} (h : RV w nov mZ y u) (h1 : u.oneCell' = true) (hf : Fr y) : CellsRv w [y] [u] := by
  refine ⟨rfl, fun j z v hz hv => ?_, fun z hz => by simp at hz; subst hz; exact hf⟩
  cases j with
  | zero => simp at hz hv; subst hz hv; exact ⟨h, h1⟩
  | succ j => simp at hz
theorem opens_int {t : TypeId} {k : IntKind} (ht : P.underlying t = some (.int k)) : Opens enc P w base spare held t (fun z : Int => [.c (.int k z)]) (fun z => (Lit.int k z).wf = true) := by
  intro fuel cs x h _
  obtain ⟨z, rfl, _, wz⟩ := DataW.trod_int ht h
  exact ⟨z, wz, cells_one1 (.c _) rfl (.c _)⟩
theorem opens_slice {t e : TypeId} {α : Type} {en : α → List AV} {R : α → Prop} {sz by_ : Nat} (ht : P.underlying t = some (.slice e)) (hc : P.cellsOf e = sz) (hb : P.bytesOf e = by_) (hby : 0 < by_) (hsz : 0 < sz) (he : Opens enc P w base spare held e en R) :
    Opens enc P w base spare held t (fun l : List α => [.sl sz (l.map en)]) (fun l => l.length * by_ ≤ 140737488355328 ∧ ∀ x ∈ l, R x) := by
  intro fuel cs x h hs
  rcases open_slice ht h with ⟨rfl, _⟩ | ⟨a, len, cap, m, n, D, Pl, rfl, _, hl, hm, hmm, rfl, hi⟩
  · refine ⟨[], ⟨by simp, by simp⟩, cells_one1 ?_ rfl (.sl (fun e he => by cases he))⟩
    exact RV.sl (l := []) (b := 0) (off := 0) (f := fun _ _ => undef) (fun h => absurd rfl h) (Nat.zero_le _) (by simp) (fun k e h => by simp at h) (fun k j e x h => by simp at h) (fun k j e x h => by simp at h) (fun e he => by cases he)
  · have hlen := sized_len hs ht
    rw [hb] at hlen
    simp only [List.length_map, List.length_range] at hlen
    have hml : len ≤ m := by rw [hmm]; split <;> omega
    have hcell : ∀ i, i < len → ∃ z : α, R z ∧ ∃ cs', CellsRv w (en z) cs' ∧ cs'.length = sz ∧ ∀ j, j < sz → w.cell? (a.add (i * sz + j)) = cs'[j]? := by
      intro i hi'
      obtain ⟨cs', hcc, ht'⟩ := hi i (by omega)
      rw [hc] at hcc
      obtain ⟨z, hz, hcr⟩ := he n cs' _ ht' (sized_elem hs ht (List.mem_map.2 ⟨i, by simpa using hi', rfl⟩))
      obtain ⟨_, hcl', hat⟩ := World.cells?_some hcc
      exact ⟨z, hz, cs', hcr, hcl', fun j hj => by rw [← hat j hj, Go.Deep.add_add]⟩
    obtain ⟨l, hl', hat⟩ := list_of len _ hcell
    have hR : ∀ x ∈ l, R x := fun x hx => by
      obtain ⟨k, hk⟩ := List.getElem?_of_mem hx
      exact (hat k x hk).1
    have hfr : FrL (l.map en) := by
      intro e he
      obtain ⟨x, hx, rfl⟩ := List.mem_map.1 he
      obtain ⟨k, hk⟩ := List.getElem?_of_mem hx
      obtain ⟨_, cs', hcr, _⟩ := hat k x hk
      exact hcr.2.2
    refine ⟨l, ⟨by rw [hl']; exact hlen, hR⟩, cells_one1 ?_ rfl (.sl hfr)⟩
    have key : ∀ (k j : Nat) (e : List AV) (y : AV), (l.map en)[k]? = some e → e[j]? = some y → e.length = sz ∧ ∃ u, w.cell? ⟨a.block, a.off + (k * sz + j), none⟩ = some u ∧ u.oneCell' = true ∧ RV w nov mZ y u ∧ a = ⟨a.block, a.off, none⟩ ∧ a.block < w.heap.size := by
      intro k j e y hk hj
      rw [List.getElem?_map] at hk
      cases hx : l[k]? with
      | none => rw [hx] at hk; cases hk
      | some z =>
        rw [hx] at hk
        simp at hk
        subst hk
        obtain ⟨_, cs', ⟨c1, c2, _⟩, c4, c5⟩ := hat k z hx
        have hjl : j < sz := by rw [← c4, ← c1]; exact (List.getElem?_eq_some_iff.1 hj).1
        have hcj := c5 j hjl
        have hget : cs'[j]? = some (cs'[j]'(by omega)) := List.getElem?_eq_getElem _
        rw [hget] at hcj
        obtain ⟨r1, r2⟩ := c2 j y _ hj hget
        have h0 : 0 < len := by have := (List.getElem?_eq_some_iff.1 hx).1; omega
        obtain ⟨_, _, cs0, ⟨_, _, _⟩, d4, d5⟩ := hcell 0 h0
        have hz0 := d5 0 hsz
        rw [List.getElem?_eq_getElem (by omega)] at hz0
        obtain ⟨e1, e2⟩ := addr_of_cell ⟨_, by simpa using hz0⟩ hcj
        exact ⟨by rw [c1, c4], _, e2, r2, r1, e1, lt_of_cell (p := ⟨a.block, a.off + (k * sz + j), none⟩) e2⟩
    have hlen2 : (l.map en).length = len := by simp [hl']
    have := RV.sl (w := w) (vs := nov) (m := mZ) (sz := sz) (l := l.map en) (A := some a) (cap := cap) (b := a.block) (off := a.off) (f := fun k j => (w.cell? ⟨a.block, a.off + (k * sz + j), none⟩).getD undef)
      (fun hne => ?_) (by omega) (by rw [hlen2]; exact Nat.le_trans (Nat.le_mul_of_pos_right _ hby) hlen) (fun k e hk => ?_) (fun k j e y hk hj => ?_) (fun k j e y hk hj => ?_) hfr
    · rw [hlen2] at this
      exact this
    · have h0 : 0 < (l.map en).length := List.length_pos_iff.2 hne
      have hk := List.getElem?_eq_getElem h0
      obtain ⟨x0, hx0, hx0'⟩ : ∃ x0, l[0]? = some x0 ∧ (l.map en)[0] = en x0 := by
        have h1 : 0 < l.length := by simpa using h0
        exact ⟨l[0], List.getElem?_eq_getElem h1, by simp⟩
      obtain ⟨_, cs', ⟨c1, _, _⟩, c4, _⟩ := hat 0 x0 hx0
      have hel : 0 < ((l.map en)[0]).length := by rw [hx0', c1, c4]; exact hsz
      obtain ⟨_, _, _, _, _, q1, q2⟩ := key 0 0 _ _ hk (List.getElem?_eq_getElem hel)
      exact ⟨by rw [← q1], noZ _, q2⟩
    · rw [List.getElem?_map] at hk
      cases hx : l[k]? with
      | none => rw [hx] at hk; cases hk
      | some z =>
        rw [hx] at hk
        simp at hk
        subst hk
        obtain ⟨_, cs', ⟨c1, _, _⟩, c4, _⟩ := hat k z hx
        rw [c1, c4]
    · obtain ⟨_, u, q1, q2, _⟩ := key k j e y hk hj
      rw [q1]
      exact ⟨rfl, q2⟩
    · obtain ⟨_, u, q1, _, q3, _⟩ := key k j e y hk hj
      rw [q1]
      exact q3

/-- fields from one on -/
def OpensF (enc : TypeId × Value → H) (P : Program) (w : World) (base : Nat) (spare : Nat → Bool) (held : Bool) (fs : List Field) (off tot : Nat) {α : Type} (en : α → List AV) (R : α → Prop) : Prop :=
  ∀ (fuel : Nat) (cs : List Value) (xs : List (DataW H × List MemPlace)), cs.length = tot → xs.length = fs.length → (∀ (i : Nat) (f : Field), fs[i]? = some f → DataW.trod enc P w base spare held fuel f.type ((cs.drop f.offset).take (P.cellsOf f.type)) = xs[i]?) →
    (∀ (i : Nat) (f : Field) (x : DataW H × List MemPlace), fs[i]? = some f → xs[i]? = some x → Sized P f.type x.1) → ∃ a, R a ∧ CellsRv w (en a) (cs.drop off)
theorem cells_append {a b : List AV} {xs ys : List Value} (h1 : CellsRv w a xs) (h2 : CellsRv w b ys) : CellsRv w (a ++ b) (xs ++ ys) := by
  refine ⟨by rw [List.length_append, List.length_append, h1.1, h2.1], fun j y u hy hu => ?_, fun y hy => ?_⟩
  · rcases Nat.lt_or_ge j a.length with hlt | hge
    · rw [List.getElem?_append_left hlt] at hy
      rw [List.getElem?_append_left (by rw [← h1.1]; exact hlt)] at hu
      exact h1.2.1 j y u hy hu
    · rw [List.getElem?_append_right hge] at hy
      rw [List.getElem?_append_right (by rw [← h1.1]; exact hge)] at hu
      rw [h1.1] at hy
      exact h2.2.1 _ y u hy hu
  · rcases List.mem_append.1 hy with h | h
    · exact h1.2.2 y h
    · exact h2.2.2 y h
theorem opensF_last {f : Field} {off tot : Nat} {α : Type} {en : α → List AV} {R : α → Prop} (ho : f.offset = off) (htot : off + P.cellsOf f.type = tot) (h : Opens enc P w base spare held f.type en R) : OpensF enc P w base spare held [f] off tot en R := by
  intro fuel cs xs hcl hx ht hs
  obtain ⟨x, rfl⟩ := List.length_eq_one_iff.1 hx
  have h1 := ht 0 f rfl
  obtain ⟨a, ha, hc⟩ := h fuel _ x h1 (hs 0 f x rfl rfl)
  refine ⟨a, ha, ?_⟩
  rw [ho, List.take_of_length_le (by simp; omega)] at hc
  exact hc
theorem opensF_cons {f : Field} {fs : List Field} {off off' tot : Nat} {α β : Type} {en : α → List AV} {R : α → Prop} {en' : β → List AV} {R' : β → Prop} (ho : f.offset = off) (hoff : off + P.cellsOf f.type = off') (h : Opens enc P w base spare held f.type en R) (h' : OpensF enc P w base spare held fs off' tot en' R') :
    OpensF enc P w base spare held (f :: fs) off tot (fun p : α × β => en p.1 ++ en' p.2) (fun p => R p.1 ∧ R' p.2) := by
  intro fuel cs xs hcl hx ht hs
  cases xs with
  | nil => simp at hx
  | cons x xs =>
    obtain ⟨a, ha, hc⟩ := h fuel _ x (ht 0 f rfl) (hs 0 f x rfl rfl)
    obtain ⟨b, hb, hc'⟩ := h' fuel cs xs hcl (by simpa using hx) (fun i g hg => by simpa using ht (i + 1) g (by simpa using hg)) (fun i g y hg hy => hs (i + 1) g y (by simpa using hg) (by simpa using hy))
    refine ⟨(a, b), ⟨ha, hb⟩, ?_⟩
    rw [ho] at hc
    have : cs.drop off = (cs.drop off).take (P.cellsOf f.type) ++ cs.drop off' := by
      rw [← hoff, ← List.drop_drop, List.take_append_drop]
    rw [this]
    exact cells_append hc hc'
theorem opens_struct {t : TypeId} {fs : Array Field} {α : Type} {en : α → List AV} {R : α → Prop} (ht : P.underlying t = some (.struct fs)) (h : OpensF enc P w base spare held fs.toList 0 (P.cellsOf t) en R) : Opens enc P w base spare held t en R := by
  intro fuel cs x hx hs
  obtain ⟨xs, n, _, rfl, hcl, hxl, hf⟩ := DataW.trod_struct ht hx
  obtain ⟨a, ha, hc⟩ := h n cs xs hcl (by simpa using hxl) (fun i f hi => hf i f (by simpa using hi)) (fun i f y hi hy => sized_field hs ht (j := i) (by simpa using hi) (by simp [List.getElem?_map, hy]))
  exact ⟨a, ha, by simpa using hc⟩

/-- a struct that came in -/
theorem agg_rv {es : List AV} {us : Array Value} (h : CellsRv w es us.toList) : RV w nov mZ (.agg es) (.agg us) :=
  .agg (by rw [h.1]; simp) (fun j y u hy hu => (h.2.1 j y u hy (by simpa using hu)).1)
theorem one_rv {y : AV} {u : Value} (h : CellsRv w [y] [u]) : RV w nov mZ y u := (h.2.1 0 y u rfl rfl).1
end
end Go.Proofs.Yteapjpgabdegnaa.Am
/- From a walk to a law's row: the arguments read behind the call as before, the result is true. -/
namespace Go.Proofs.Yteapjpgabdegnaa
open Go.RowKit Go.WideShapes Go.ChangeShapes Go.ChangeAt
section
variable {H : Type} {enc : TypeId × Value → H} {P : Program}
theorem post_of_below {f : Func} {s : ChangeSpec} {apart fresh handsOn again : Bool} {W W' : World} {args : Array Value} {v : Value} {ds gs : List (DataW H)} {before pa pv : List MemPlace}
    (hW : DataW.Whole enc P f.params.toList s.vars apart W args.toList ds gs before)
    (hres : ∀ (b : Nat) (sp : Nat → Bool) (hd : Bool), DataW.TrodAll enc P W' b sp hd f.resultTypes.toList (v.resultList f.resultTypes.size) (s.fn H (ds ++ gs)).results [])
    (hargs : ∀ sp : Nat → Bool, (∀ p ∈ before, sp p.block = true) → DataW.TrodAll enc P W' 0 sp true f.params.toList args.toList (s.fn H (ds ++ gs)).args pa)
    (hvars : ∀ sp : Nat → Bool, (∀ p ∈ before, sp p.block = true) → DataW.TrodVars enc P W' sp s.vars (s.fn H (ds ++ gs)).vars pv)
    (hps : before = pa ++ pv) (hb : Below W.heap.size W W')
    (hok : ∀ (j : Nat) (t : TypeId) (r : Value), f.resultTypes[j]? = some t → (v.resultList f.resultTypes.size)[j]? = some r → Value.okWide P W' .any 0 t r) :
    s.post enc P f apart fresh handsOn again W args v W' := by
  have hlt : ∀ p ∈ before, p.block < W.heap.size := fun p hp => hW.lt p hp
  have hold : ∀ p ∈ before, (fun b => decide (b < W.heap.size)) p.block = true := fun p hp => by simpa using hlt p hp
  refine ⟨ds, gs, before, [], pa, pv, hW, hres _ _ _, hargs _ hold, hvars _ hold, World.keptBut_mono (fun p hp => ⟨hp, ?_⟩) (hb.frame (· ∈ before)), fun _ => ?_⟩
  · rw [hps, List.mem_append] at hp
    exact Or.inr hp
  · obtain ⟨_, _, _, _, _, hz, hn⟩ := hW
    refine ⟨hok, _, _, ([] ++ pa) ++ pv, ⟨[] ++ pa, pv, trodAll_append (hargs _ (fun _ _ => rfl)) (hres _ _ _), hvars _ (fun _ _ => rfl), rfl, ?_, ?_⟩, ?_⟩
    · intro b off hp
      have hin : MemPlace.cell b off ∈ before := by rw [hps]; simpa using hp
      rw [hb.frozen (hlt _ hin)]
      exact hz b off hin
    · intro ha
      have := hn ha
      rw [hps] at this
      simpa using this
    · intro p hp _
      rw [hps]
      simpa using hp

theorem trodAll_keep (hl : laidOutB P = true) {W W' : World} (hb : Below W.heap.size W W') (sp : Nat → Bool) (ts : List TypeId) : ∀ (vs : List Value) (ds : List (DataW H)) (ps : List MemPlace), (∀ t ∈ ts, P.readableRec t = true ∧ t < P.types.size) →
    DataW.TrodAll enc P W 0 (fun _ => true) true ts vs ds ps → (∀ x ∈ ps, x.block < W.heap.size) → (∀ x ∈ ps, sp x.block = true) → DataW.TrodAll enc P W' 0 sp true ts vs ds ps := by
  induction ts with
  | nil =>
    intro vs ds ps _ h _ _
    obtain ⟨rfl, rfl, rfl⟩ := trodAll_nil h
    exact trodAll_mk0
  | cons t ts ih =>
    intro vs ds ps hts h hlt hsp
    obtain ⟨v0, vs0, d0, ds0, p0, q0, rfl, rfl, rfl, h0, r0⟩ := trodAll_cons h
    obtain ⟨hr, hrow⟩ := hts t (by simp)
    exact trodAll_cons_mk (WideElems.Trod_stays hl hr hrow h0 (fun x hx => hb.same (hlt x (by simp [hx]))) (fun x hx => hsp x (by simp [hx])))
      (ih _ _ _ (fun t ht => hts t (by simp [ht])) r0 (fun x hx => hlt x (by simp [hx])) (fun x hx => hsp x (by simp [hx])))

/-- A LAW: it returned true, nothing that was there has turned. -/
theorem law_post (hl : laidOutB P = true) {f : Func} {s : ChangeSpec} {T : TypeId} {W W' : World} {args : Array Value} {ds : List (DataW H)} {before : List MemPlace}
    (hvars : s.vars = []) (hrt : f.resultTypes = #[T]) (hT : P.underlying T = some .bool) (hts : f.params.toList.all (fun t => P.readableRec t && decide (t < P.types.size)) = true)
    (hW : DataW.Whole enc P f.params.toList s.vars false W args.toList ds [] before) (hA : DataW.TrodAll enc P W 0 (fun _ => true) true f.params.toList args.toList ds before)
    (e1 : (s.fn H (ds ++ [])).results = [.lit (.bool true)]) (e2 : (s.fn H (ds ++ [])).args = ds) (e3 : (s.fn H (ds ++ [])).vars = []) (hb : Below W.heap.size W W') :
    s.post enc P f false true false false W args (.bool true) W' := by
  have hlt : ∀ x ∈ before, x.block < W.heap.size := fun x hx => hW.lt x hx
  refine post_of_below (pa := before) (pv := []) hW ?_ ?_ ?_ (by simp) hb ?_
  · intro b sp hd
    rw [e1, hrt]
    exact trodAll_cons_mk (shut_bool hT true) trodAll_mk0
  · intro sp hsp
    rw [e2]
    exact trodAll_keep hl hb sp _ _ _ _ (fun t ht => by simpa using List.all_eq_true.1 hts t ht) hA hlt hsp
  · intro sp hsp
    rw [e3, hvars]
    rfl
  · exact ok_one hrt rfl (okWide_bool_mk hT true)
end
end Go.Proofs.Yteapjpgabdegnaa
/- Readers of the arguments of the laws about tasks. -/
namespace Go.Proofs.Yteapjpgabdegnaa.Am
open Go.RowKit Go.ChangeShapes Go.WideShapes Go.Deep Go.Joins
section
variable {H : Type} {enc : TypeId × Value → H} {w : World} {base : Nat} {spare : Nat → Bool} {held : Bool}
theorem opens_conv {P : Program} {t : TypeId} {α β : Type} {en : α → List AV} {en2 : β → List AV} {R : α → Prop} {R2 : β → Prop} (f : α → β) (h : Opens enc P w base spare held t en R) (he : ∀ a, en2 (f a) = en a) (hR : ∀ a, R a → R2 (f a)) : Opens enc P w base spare held t en2 R2 := by
  intro fuel cs x hx hs
  obtain ⟨a, ha, hc⟩ := h fuel cs x hx hs
  exact ⟨f a, hR a ha, by rw [he]; exact hc⟩
theorem opens_str2 {P : Program} {t : TypeId} (ht : P.underlying t = some .string) : Opens enc P w base spare held t (fun s : ByteArray => [.c (.string s)]) (fun s => s.size ≤ 140737488355328) := by
  intro fuel cs x h hsz
  obtain ⟨s, rfl, rfl, -⟩ := DataW.trod_string ht h
  refine ⟨s, ?_, cells_one1 (.c _) rfl (.c _)⟩
  have h1 : s.data.toList.length ≤ 140737488355328 := Nat.le_trans (hsz s.data.toList.length (List.mem_singleton.2 rfl)) (by decide)
  rw [Array.length_toList] at h1
  exact h1
abbrev I64F (p : Fact) : Prop := (Lit.int .i64 p.1).wf = true ∧ (Lit.int .i64 p.2).wf = true
abbrev FactsR (l : List Fact) : Prop := l.length * 16 ≤ 140737488355328 ∧ ∀ p ∈ l, I64F p
abbrev EffR (e : GEffect) : Prop := FactsR e.When
abbrev OpR (o : GOp) : Prop := o.Name.size ≤ 140737488355328 ∧ FactsR o.Pre ∧ o.Effs.length * 40 ≤ 140737488355328 ∧ ∀ e ∈ o.Effs, EffR e
abbrev IntsR (l : List Int) : Prop := l.length * 8 ≤ 140737488355328 ∧ ∀ z ∈ l, (Lit.int .i64 z).wf = true
abbrev TaskR (t : GTask) : Prop := IntsR t.Vars ∧ IntsR t.Init ∧ FactsR t.Goal ∧ t.Ops.length * 72 ≤ 140737488355328 ∧ ∀ o ∈ t.Ops, OpR o
set_option maxRecDepth 100000 in
theorem oFact : Opens enc Try.prog w base spare held 40 cF I64F :=
  opens_struct Try.underlying40 (opensF_cons (off' := 1) rfl (by kernel_rfl) (opens_int Try.underlying3) (opensF_last rfl (by kernel_rfl) (opens_int Try.underlying3)))
set_option maxRecDepth 100000 in
theorem oFacts : Opens enc Try.prog w base spare held 23 (fun l : List Fact => [.sl 2 (l.map cF)]) FactsR :=
  opens_slice Try.underlying23 (by kernel_rfl) (by kernel_rfl) (by decide) (by decide) oFact
set_option maxRecDepth 100000 in
theorem oInts : Opens enc Try.prog w base spare held 22 (fun l : List Int => [.sl 1 (l.map cI)]) IntsR :=
  opens_slice Try.underlying22 (by kernel_rfl) (by kernel_rfl) (by decide) (by decide) (opens_int Try.underlying3)
set_option maxRecDepth 100000 in
theorem oEff : Opens enc Try.prog w base spare held 42 cGEffect EffR :=
  opens_conv (fun p : List Fact × (Int × Int) => { When := p.1, Var := p.2.1, Val := p.2.2 : GEffect })
    (opens_struct Try.underlying42 (opensF_cons (off' := 1) (en := fun l : List Fact => [AV.sl 2 (l.map cF)]) (R := FactsR) (en' := fun z : Int × Int => [AV.c (.int .i64 z.1)] ++ [AV.c (.int .i64 z.2)]) (R' := fun z : Int × Int => (Lit.int .i64 z.1).wf = true ∧ (Lit.int .i64 z.2).wf = true) rfl (by kernel_rfl) oFacts
      (opensF_cons (off' := 2) (en := fun z : Int => [AV.c (.int .i64 z)]) (R := fun z : Int => (Lit.int .i64 z).wf = true) (en' := fun z : Int => [AV.c (.int .i64 z)]) (R' := fun z : Int => (Lit.int .i64 z).wf = true) rfl (by kernel_rfl) (opens_int Try.underlying3) (opensF_last rfl (by kernel_rfl) (opens_int Try.underlying3)))))
    (fun _ => rfl) (fun _ h => h.1)
set_option maxRecDepth 100000 in
theorem oOp : Opens enc Try.prog w base spare held 38 cGOp OpR :=
  opens_conv (fun p : ByteArray × (Int × (List Fact × List GEffect)) => { Name := p.1, Cost := p.2.1, Pre := p.2.2.1, Effs := p.2.2.2 : GOp })
    (opens_struct Try.underlying38 (opensF_cons (off' := 1) (en := fun s : ByteArray => [AV.c (.string s)]) (R := fun s => s.size ≤ 140737488355328) (en' := fun p : Int × (List Fact × List GEffect) => [AV.c (.int .i64 p.1)] ++ ([AV.sl 2 (p.2.1.map cF)] ++ [AV.sl 3 (p.2.2.map cGEffect)])) (R' := fun p : Int × (List Fact × List GEffect) => (Lit.int .i64 p.1).wf = true ∧ (FactsR p.2.1 ∧ (p.2.2.length * 40 ≤ 140737488355328 ∧ ∀ e ∈ p.2.2, EffR e))) rfl (by kernel_rfl) (opens_str2 Try.underlying9)
      (opensF_cons (off' := 2) (en := fun z : Int => [AV.c (.int .i64 z)]) (R := fun z : Int => (Lit.int .i64 z).wf = true) (en' := fun p : List Fact × List GEffect => [AV.sl 2 (p.1.map cF)] ++ [AV.sl 3 (p.2.map cGEffect)]) (R' := fun p : List Fact × List GEffect => FactsR p.1 ∧ (p.2.length * 40 ≤ 140737488355328 ∧ ∀ e ∈ p.2, EffR e)) rfl (by kernel_rfl) (opens_int Try.underlying3)
        (opensF_cons (off' := 3) (en := fun l : List Fact => [AV.sl 2 (l.map cF)]) (R := FactsR) (en' := fun l : List GEffect => [AV.sl 3 (l.map cGEffect)]) (R' := fun l : List GEffect => l.length * 40 ≤ 140737488355328 ∧ ∀ e ∈ l, EffR e) rfl (by kernel_rfl) oFacts
          (opensF_last rfl (by kernel_rfl) (opens_slice Try.underlying36 (by kernel_rfl) (by kernel_rfl) (by decide) (by decide) oEff))))))
    (fun _ => rfl) (fun _ h => ⟨h.1, h.2.2.1, h.2.2.2⟩)
set_option maxRecDepth 100000 in
theorem oTask : Opens enc Try.prog w base spare held 26 cGTask TaskR :=
  opens_conv (fun p : List Int × (List Int × (List Fact × List GOp)) => { Vars := p.1, Init := p.2.1, Goal := p.2.2.1, Ops := p.2.2.2 : GTask })
    (opens_struct Try.underlying26 (opensF_cons (off' := 1) (en := fun l : List Int => [AV.sl 1 (l.map cI)]) (R := IntsR) (en' := fun p : List Int × (List Fact × List GOp) => [AV.sl 1 (p.1.map cI)] ++ ([AV.sl 2 (p.2.1.map cF)] ++ [AV.sl 4 (p.2.2.map cGOp)])) (R' := fun p : List Int × (List Fact × List GOp) => IntsR p.1 ∧ (FactsR p.2.1 ∧ (p.2.2.length * 72 ≤ 140737488355328 ∧ ∀ o ∈ p.2.2, OpR o))) rfl (by kernel_rfl) oInts
      (opensF_cons (off' := 2) (en := fun l : List Int => [AV.sl 1 (l.map cI)]) (R := IntsR) (en' := fun p : List Fact × List GOp => [AV.sl 2 (p.1.map cF)] ++ [AV.sl 4 (p.2.map cGOp)]) (R' := fun p : List Fact × List GOp => FactsR p.1 ∧ (p.2.length * 72 ≤ 140737488355328 ∧ ∀ o ∈ p.2, OpR o)) rfl (by kernel_rfl) oInts
        (opensF_cons (off' := 3) (en := fun l : List Fact => [AV.sl 2 (l.map cF)]) (R := FactsR) (en' := fun l : List GOp => [AV.sl 4 (l.map cGOp)]) (R' := fun l : List GOp => l.length * 72 ≤ 140737488355328 ∧ ∀ o ∈ l, OpR o) rfl (by kernel_rfl) oFacts
          (opensF_last rfl (by kernel_rfl) (opens_slice Try.underlying24 (by kernel_rfl) (by kernel_rfl) (by decide) (by decide) oOp))))))
    (fun _ => rfl) (fun _ h => h)
/-- a struct argument -/
theorem arg_struct {P : Program} {t : TypeId} {fs : Array Field} {α : Type} {en : α → List AV} {R : α → Prop} {r : Reach} {b0 : Nat} {v : Value} {d : DataW H} {p : List MemPlace} (ht : P.underlying t = some (.struct fs)) (hv : Value.okWide P w r b0 t v) (ho : Opens enc P w base spare held t en R) (h : DataW.Trod enc P w base spare held t v d p) (hs : Sized P t d) :
    ∃ a, R a ∧ RV w nov mZ (.agg (en a)) v := by
  obtain ⟨cs, rfl, hsz⟩ := okWide_struct ht hv
  obtain ⟨fuel, hf⟩ := h
  obtain ⟨a, ha, hc⟩ := ho fuel _ _ hf hs
  exact ⟨a, ha, agg_rv hc⟩
/-- an argument of one cell -/
theorem arg_one {P : Program} {t : TypeId} {α : Type} {y : α → AV} {R : α → Prop} {v : Value} {d : DataW H} {p : List MemPlace} (hv : v.cells = #[v]) (ho : Opens enc P w base spare held t (fun a => [y a]) R) (h : DataW.Trod enc P w base spare held t v d p) (hs : Sized P t d) :
    ∃ a, R a ∧ RV w nov mZ (y a) v := by
  obtain ⟨fuel, hf⟩ := h
  rw [hv] at hf
  obtain ⟨a, ha, hc⟩ := ho fuel _ _ hf hs
  exact ⟨a, ha, one_rv hc⟩
end
theorem TaskR.sh {t : GTask} (h : TaskR t) : ShT t := by
  obtain ⟨⟨h1, -⟩, ⟨h2, -⟩, ⟨h3, -⟩, h4, h5⟩ := h
  refine ⟨?_, ?_, ?_, ?_, fun o ho => ?_⟩
  · show _ ≤ _; omega
  · show _ ≤ _; omega
  · show _ ≤ _; omega
  · show _ ≤ _; omega
  · obtain ⟨g1, ⟨g2, -⟩, g3, g4⟩ := h5 o ho
    refine ⟨by omega, ?_, ?_, fun e he => ?_⟩
    · show _ ≤ _; omega
    · show _ ≤ _; omega
    · have := (g4 e he).1
      show _ ≤ _; omega
theorem FactsR.sh {l : List Fact} (h : FactsR l) : Sh l := by have := h.1; show _ ≤ _; omega
theorem u8_wf {z : Int} (h : (Lit.int .u8 z).wf = true) : 0 ≤ z ∧ z ≤ 255 := by
  simp only [Lit.wf, Bool.and_eq_true, decide_eq_true_eq] at h
  have h1 : IntKind.u8.min = 0 := rfl
  have h2 : IntKind.u8.max = 255 := rfl
  omega
theorem law_of {f : FuncId} {args : List AV} {w : World} {cargs : Array Value} (h : ACall cx f args (.c (.bool true))) (hs : cargs.size = args.length) (hr : ∀ (j : Nat) (x : AV) (v : Value), args[j]? = some x → cargs[j]? = some v → RV w nov (mO (fun _ => False)) x v) :
    Calls Try.prog f cargs w fun e w' => e = .returned (.bool true) ∧ Below w.heap.size w w' := by
  refine Calls.mono (h.2 w (fun _ => False) cargs trivial (Nat.zero_le _) (fun b hb => hb.elim) hs hr) ?_
  rintro e w' ⟨v, rfl, h1, h2, _⟩
  rw [rv_c h1]
  exact ⟨rfl, ⟨h2.os, h2.tape, h2.output, h2.size, fun b hb => h2.block b hb (fun h => h)⟩⟩
end Go.Proofs.Yteapjpgabdegnaa.Am
/- stratagemlaw26.RegressPlain returns true for every input. No condition beyond the row's own. -/
namespace Go.Proofs.Yteapjpgabdegnaa.rowPlain
open Go.ChangeShapes Go.WideShapes Go.ChangeAt Go.RowKit Am

theorem laidOut : laidOutB Try.prog = true := by kernel_rfl
set_option maxRecDepth 100000 in
theorem contract (H : Type) (enc : TypeId × Value → H) (W : World) (base : Nat) (args : Array Value) (ds gs : List (DataW H)) (before : List MemPlace)
    (hval : ∀ (j : Nat) t v, Try.f3.params[j]? = some t → args[j]? = some v → Value.okWide Try.prog W .any base t v)
    (hW : DataW.Whole enc Try.prog Try.f3.params.toList Rows.regressPlainSpec.vars false W args.toList ds gs before)
    (hsz : (DataW.weightsEach Try.prog (Try.f3.params.toList ++ (OpenSpec.ofChange Rows.regressPlainSpec).bare.plain.varTypes Try.prog) (ds ++ gs)).all (· ≤ reachBytes) = true) :
    Calls Try.prog 3 args W fun e W' => ∃ v, e = .returned v ∧ Rows.regressPlainSpec.post enc Try.prog Try.f3 false true false false W args v W' := by
  have hW' := hW
  obtain ⟨p, q, hA0, hV, rfl, hfz, hnd⟩ := hW
  have hA : DataW.TrodAll enc Try.prog W 0 (fun _ => true) true Try.f3.params.toList args.toList ds p := hA0
  rw [Try.params3] at hA hval
  obtain ⟨v0, vs0, d0, ds0, p0, q0, hargs, rfl, rfl, h0, r0⟩ := trodAll_cons hA
  obtain ⟨v1, vs1, d1, ds1, p1, q1, rfl, rfl, rfl, h1, r1⟩ := trodAll_cons r0
  obtain ⟨v2, vs2, d2, ds2, p2, q2, rfl, rfl, rfl, h2, r2⟩ := trodAll_cons r1
  obtain ⟨rfl, rfl, rfl⟩ := trodAll_nil r2
  obtain rfl : args = #[v0, v1, v2] := Array.ext' hargs
  obtain ⟨rfl, rfl⟩ := trodVars_none hV
  simp only [List.append_nil] at hW' hA0 hsz
  rw [Try.params3] at hsz
  obtain ⟨t, ht, k0⟩ := arg_struct Try.underlying26 (hval 0 26 v0 rfl rfl) oTask h0 (sized_arg hsz (j := 0) rfl rfl)
  obtain ⟨a2, len2, cap2, rfl⟩ := okWide_slice Try.underlying23 (hval 2 23 v2 rfl rfl)
  obtain ⟨p, hp, k2⟩ := arg_one rfl oFacts h2 (sized_arg hsz (j := 2) rfl rfl)
  obtain ⟨op, rfl, rfl, rfl, wd⟩ := open_int Try.underlying5 (hval 1 5 v1 rfl rfl) h1
  simp only [List.nil_append] at hW' hA0
  refine (law_of (A_l26_RegressPlain 100 t op p (plain_true 100 (by decide) t ht.sh op (u8_wf wd) p hp.sh)) rfl (fun j x v hx hv => ?_)).mono fun e W' ⟨he, hb⟩ => ?_
  · match j, hx, hv with
    | 0, hx, hv => simp at hx hv; subst hx hv; exact k0
    | 1, hx, hv => simp at hx hv; subst hx hv; exact .c _
    | 2, hx, hv => simp at hx hv; subst hx hv; exact k2
    | j + 3, hx, hv => simp at hx
  · subst he
    exact ⟨_, rfl, law_post laidOut rfl (by kernel_rfl) Try.underlying4 (by kernel_rfl) hW' hA0 rfl rfl rfl hb⟩
theorem own : ownKnob Try.prog.godebug = none := by kernel_rfl
theorem laid_met (os : Os) : laidMet Try.prog Rows.regressPlainRow.laid ((World.holding Try.prog os ⟨#[], #[], []⟩).forCall (fun _ _ => 0) ⟨#[], #[.agg #[.slice none 0 0, .slice none 0 0, .slice none 0 0, .slice none 0 0], .int .u8 0, .slice none 0 0], []⟩).memory :=
  laidMet_of_run' 8 (by kernel_rfl) (by kernel_rfl)
theorem reads (os : Os) {H : Type} (enc : TypeId × Value → H) : ∃ places, DataW.whole enc Try.prog ((World.holding Try.prog os ⟨#[], #[], []⟩).forCall (fun _ _ => 0) ⟨#[], #[.agg #[.slice none 0 0, .slice none 0 0, .slice none 0 0, .slice none 0 0], .int .u8 0, .slice none 0 0], []⟩).memory Try.f3.params.toList Rows.regressPlainSpec.vars false (#[.agg #[.slice none 0 0, .slice none 0 0, .slice none 0 0, .slice none 0 0], .int .u8 0, .slice none 0 0] : Array Value).toList 8 = some ([.agg [.nil, .nil, .nil, .nil], .lit (.int .u8 0), .nil], [], places) :=
  ⟨[], by kernel_rfl⟩

set_option maxRecDepth 100000 in
theorem lifted (os : Os) (started : os.Started) (H : Type) (enc : TypeId × Value → H) (F : Stop.Interp) :
    ReturnsInHanded {} Try.checked os 3 .any ((OpenSpec.ofChange Rows.regressPlainSpec).preRow enc Try.prog Try.f3 Rows.regressPlainRow.domain false Rows.regressPlainRow.laid) (((OpenSpec.ofChange Rows.regressPlainSpec).at F).post enc Try.prog Try.f3 false true false false) := by
  obtain ⟨places, hx⟩ := reads os enc
  refine returnsInHanded_of_row (C := Try.checked) (s := OpenSpec.ofChange Rows.regressPlainSpec) own started (by kernel_rfl) Try.func3
    (witness_row_at (enc := enc) (C := Try.checked) false (World.holding Try.prog os ⟨#[], #[], []⟩) #[.agg #[.slice none 0 0, .slice none 0 0, .slice none 0 0, .slice none 0 0], .int .u8 0, .slice none 0 0] rfl (by kernel_rfl) (by kernel_rfl) (by kernel_rfl)
      (OpenSpec.preRow_of_cond 8 hx (by kernel_rfl) (fun k hk => by cases hk) (by kernel_rfl) (laid_met os))) ?_
  intro W base args ds gs before hval hW _ _ hsz _ _ _
  exact contract H enc W base args ds gs before hval hW hsz

/-- THE STATEMENT. -/
theorem said : Rows.RegressPlainSaid :=
  OpenClaim.holds_of_cond 3 Try.f3 rfl rfl rfl rfl rfl rfl rfl ⟨rfl, rfl, rfl, rfl, rfl⟩ rfl rfl rfl rfl rfl (by kernel_rfl) Try.func3 (by kernel_rfl)
    (of_decide_eq_true (by kernel_rfl)) (by unfold Func.isWrapper; first | (rw [if_pos (by decide +kernel)]; kernel_rfl) | (rw [if_neg (by decide +kernel)]; exact ⟨rfl, rfl⟩))
    (fun os started H enc _ F => by rw [OpenClaim.pre_eq_preRow]; exact lifted os started H enc F)
end Go.Proofs.Yteapjpgabdegnaa.rowPlain
