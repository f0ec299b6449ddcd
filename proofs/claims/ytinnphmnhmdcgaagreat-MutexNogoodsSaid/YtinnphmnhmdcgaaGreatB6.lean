/- stratagemlaw33.MutexNogoods returns true for every input. No condition beyond the row's own. -/
import Derived.Test.YtinnphmnhmdcgaaGreatB2
import Derived.Test.YtinnphmnhmdcgaaGreatB5
import Derived.Test.YtinnphmnhmdcgaaGreatB3
import Derived.Test.YtinnphmnhmdcgaaGreatB4
import Derived.Test.YtinnphmnhmdcgaaGreatB1
import Derived.Deep.Slices
import Derived.Deep.Fields
import Derived.ChangeSame
import Derived.SizedLaws
import Derived.Lib.SmallJoins
import Derived.Below
import Derived.OpenShut
import Derived.Carry
import Derived.Test.YtinnphmnhmdcgaaGreatRows
import Derived.Deep.DeepHandedRow
import Derived.Lib.LaidTab
set_option linter.unusedVariables false
set_option linter.unusedSectionVars false
namespace Go.Proofs.YtinnphmnhmdcgaaGreat.Am
set_option maxHeartbeats 16000000
set_option maxRecDepth 100000
open Go.RowKit
def M_l33_awake (g : Nat) : Option (Bool) :=
  ob2 (M_mutex_New g ({ Vars := [3], Init := [0], Goal := [], Ops := [{ Name := (⟨#[]⟩ : ByteArray), Cost := 0, Pre := [], Effs := [{ When := [], Var := 0, Val := 1 : GEffect }] : GOp }] : GTask })) (fun z1 z2 =>
   erM z2
    (opM z1
      (some false)
      (fun z4 => ob1 (M_stratagem_mutex_Table_Reached (some z4) (0, 1)) (fun z5 =>
        sel z5
         (ob1 (M_stratagem_mutex_Table_Reached (some z4) (0, 2)) (fun z6 =>
           some (!z6)))
         (some false))))
    (fun _ => some false))
theorem A_l33_awake (g : Nat) {r1 : Bool} (h : M_l33_awake g = some r1) : ACall cx 12 [] (.c (.bool r1)) := by
  refine aOf Tryz.func12 rfl (by decide) rfl (Nat.le_of_ble_eq_true rfl) ?_; intro _; unfold M_l33_awake at h; refine aSR ?_; intro _; refine dr ?_; refine aSR ?_; intro _; obtain ⟨z1, z2, u1, h⟩ := ob2_ok h; refine clf [(4, ⟨2, none⟩), (5, ⟨2, none⟩), (7, ⟨2, none⟩), (9, ⟨2, none⟩)] rfl rfl (A_mutex_New g ({ Vars := [3], Init := [0], Goal := [], Ops := [{ Name := (⟨#[]⟩ : ByteArray), Cost := 0, Pre := [], Effs := [{ When := [], Var := 0, Val := 1 : GEffect }] : GOp }] : GTask }) u1) ?_; intro _; refine dr ?_; refine aSq ?_; rcases z2 with _ | e3
  · replace h := erM_nil h; rcases z1 with _ | z4
    · replace h := opM_none h; refine aRg ?_; intro _; refine litT ?_; intro _; refine ⟨_, lf_nilQ rfl (Nat.le_of_ble_eq_true rfl) rfl (by kernel_rfl) (.inr ⟨rfl, rfl⟩), ?_⟩; intro _; refine litF ?_; intro _; refine dr ?_; refine aRt ?_; intro _; obtain rfl := inj1 h; exact ca_0
    · replace h := opM_some h; refine aRg ?_; intro _; refine litT ?_; intro _; refine ⟨_, lf_nilP rfl (Nat.le_of_ble_eq_true rfl) rfl (by kernel_rfl) (.inr ⟨rfl, rfl⟩), ?_⟩; intro _; refine litT ?_; intro _; obtain ⟨z5, u2, h⟩ := ob1_ok h; refine cl rfl (A_stratagem_mutex_Table_Reached (some z4) (0, 1) u2) ?_; intro _; refine spl h (fun c3 h => ?_) (fun c3 h => ?_)
      · intro _; obtain ⟨z6, u4, h⟩ := ob1_ok h; refine cl rfl (A_stratagem_mutex_Table_Reached (some z4) (0, 2) u4) ?_; intro _; refine dr ?_; refine aRt ?_; intro _; obtain rfl := inj1 h; exact ca_0
      · intro _; refine dr ?_; refine aRt ?_; intro _; obtain rfl := inj1 h; exact ca_0
  · replace h := erM_no h; refine aRg ?_; intro _; refine litF ?_; intro _; refine dr ?_; refine aRt ?_; intro _; obtain rfl := inj1 h; exact ca_0
def M_l33_fit (a0 : GTask) : Option (Bool) :=
  ob1 (M_b_Tame a0) (fun z1 =>
   sel z1
    (sel (decide (((a0.Ops.map cGOp).length : Int) ≤ 10))
      (some (decide (((a0.Vars.map cI).length : Int) ≤ 6)))
      (some false))
    (some false))
theorem A_l33_fit (a0 : GTask) {r1 : Bool} (h : M_l33_fit a0 = some r1) : ACall cx 10 [.agg [.sl 1 (a0.Vars.map cI), .sl 1 (a0.Init.map cI), .sl 2 (a0.Goal.map cF), .sl 4 (a0.Ops.map cGOp)]] (.c (.bool r1)) := by
  refine aOf Tryz.func10 rfl (by decide) rfl (Nat.le_of_ble_eq_true rfl) ?_; intro _; unfold M_l33_fit at h; refine aSR ?_; intro _; refine dr ?_; refine aSR ?_; intro _; obtain ⟨z1, u1, h⟩ := ob1_ok h; refine cl rfl (A_b_Tame a0 u1) ?_; intro _; refine spl h (fun c2 h => ?_) (fun c2 h => ?_)
  · intro _; refine spl h (fun c3 h => ?_) (fun c3 h => ?_)
    · intro _; refine dr ?_; refine aRt ?_; intro _; obtain rfl := inj1 h; exact ca_0
    · intro _; refine dr ?_; refine aRt ?_; intro _; obtain rfl := inj1 h; exact ca_0
  · intro _; refine dr ?_; refine aRt ?_; intro _; obtain rfl := inj1 h; exact ca_0
def M_b_Facts_L1 (a0 : List Fact) (a1 : List Fact) : Nat → Int → Option (Bool)
  | 0, _ => none
  | k7 + 1, v6 =>
    sel (decide (v6 < ((a0.map cF).length : Int)))
     (ix a0 v6 (fun y8 =>
       ix a1 v6 (fun y9 =>
        sel (!(y8.1 == y9.1 && y8.2 == y9.2))
         (some false)
         (M_b_Facts_L1 a0 a1 k7 (IntKind.i64.wrap (v6 + 1))))))
     (some true)
def M_b_Facts (a0 : List Fact) (a1 : List Fact) : Option (Bool) :=
  sel (((a0.map cF).length : Int) != ((a1.map cF).length : Int))
   (some false)
   (M_b_Facts_L1 a0 a1 ((((a0.map cF).length : Int)).toNat + 1) 0)
theorem A_b_Facts (a0 : List Fact) (a1 : List Fact) {r1 : Bool} (h : M_b_Facts a0 a1 = some r1) : ACall cx 57 [.sl 2 (a0.map cF), .sl 2 (a1.map cF)] (.c (.bool r1)) := by
  refine aOf Tryz.func57 rfl (by decide) rfl (Nat.le_of_ble_eq_true rfl) ?_; intro _; unfold M_b_Facts at h; refine aSR ?_; intro _; refine dr ?_; refine aSq ?_; refine aSR ?_; intro _; refine dr ?_; refine aCd ?_; intro _; refine spl h (fun c1 h => ?_) (fun c1 h => ?_)
  · refine aSR ?_; intro _; refine dr ?_; refine aRt ?_; intro _; obtain rfl := inj1 h; exact ca_0
  · refine aSk ?_; refine aSq ?_; refine aSR ?_; intro _; refine dr ?_; refine aBk ?_; refine awp_loop (α := Nat × Int) (fun x => mkS 26 [(0, .sl 2 (a0.map cF)), (1, .sl 2 (a1.map cF)), (12, .c (.int .i64 ((a0.map cF).length : Int))), (13, .c (.int .i64 x.2))] []) (fun x => M_b_Facts_L1 a0 a1 x.1 x.2 = some r1) (fun x => x.1) ((((a0.map cF).length : Int)).toNat + 1, 0) h ?_ ?_
    · exact ca_0
    · intro x2 h; intro _; obtain ⟨k7, m3, h⟩ := succ_of (f := fun n => M_b_Facts_L1 a0 a1 n x2.2) rfl h; replace h : M_b_Facts_L1 a0 a1 (k7 + 1) x2.2 = some r1 := h; rw [M_b_Facts_L1] at h; refine aSR ?_; intro _; refine dr ?_; refine aSq ?_; refine aCd ?_; intro _; refine spl h (fun c4 h => ?_) (fun c4 h => ?_)
      · refine aSk ?_; refine aSq ?_; refine aBk ?_; refine aSR ?_; intro _; refine dr ?_; refine aSR ?_; intro _; obtain ⟨y8, w5, q6, h⟩ := ix_ok h; refine Exists.intro (cF y8) (And.intro (map_at' w5) ?_); intro _; obtain ⟨y9, w7, q8, h⟩ := ix_ok h; refine Exists.intro (cF y9) (And.intro (map_at' w7) ?_); intro _; refine ⟨_, lf_eq2 rfl (Nat.le_of_ble_eq_true rfl) rfl rfl (eqFact _ _ _ _) (eqFactG _ _ _ _ _ _ _) (.inr ⟨rfl, rfl⟩), ?_⟩; intro _; refine pr ?_; refine pr ?_; refine dr ?_; refine aCd ?_; intro _; refine spl h (fun c9 h => ?_) (fun c9 h => ?_)
        · refine aSR ?_; intro _; refine dr ?_; refine aRt ?_; intro _; obtain rfl := inj1 h; exact ca_0
        · refine aSk ?_; refine aRg ?_; intro _; refine dr ?_; refine ⟨(k7, (IntKind.i64.wrap (x2.2 + 1))), h, ltS m3, ?_⟩; exact ca_0
      · refine aEx ?_; refine aSR ?_; intro _; refine dr ?_; refine aRt ?_; intro _; obtain rfl := inj1 h; exact ca_0
def M_r33_Facts_L1 (v31 : Int) (y42 : Int) : Nat → Int → (List Fact) → Option (List Fact)
  | 0, _, _ => none
  | k47 + 1, v45, v46 =>
    sel (decide (v45 < y42))
     (grd ((v46.length + 1) * 16 ≤ 140737488355328) (M_r33_Facts_L1 v31 y42 k47 (IntKind.i64.wrap (v45 + 1)) (v46 ++ [(v31, v45)])))
     (some v46)
def M_r33_Facts_L2 (a0 : List Int) : Nat → Int → (List Fact) → Option (List Fact)
  | 0, _, _ => none
  | k33 + 1, v31, v32 =>
    sel (decide (v31 < ((a0.map cI).length : Int)))
     (ob1 (ix a0 v31 (fun y42 =>
        M_r33_Facts_L1 v31 y42 ((y42).toNat + 1) 0 v32) : Option (List Fact))
       (fun v40 => M_r33_Facts_L2 a0 k33 (IntKind.i64.wrap (v31 + 1)) v40))
     (grd (v32.length ≤ 140737488355328) (some v32))
def M_r33_Facts (a0 : List Int) : Option (List Fact) :=
  M_r33_Facts_L2 a0 ((((a0.map cI).length : Int)).toNat + 1) 0 []
theorem A_r33_Facts (a0 : List Int) {r1 : List Fact} (h : M_r33_Facts a0 = some r1) : ACall cx 15 [.sl 1 (a0.map cI)] (.sl 2 (r1.map cF)) := by
  refine aOf Tryz.func15 rfl (by decide) rfl (Nat.le_of_ble_eq_true rfl) ?_; intro _; unfold M_r33_Facts at h; refine aSR ?_; intro _; refine dr ?_; refine aSR ?_; intro _; refine dr ?_; refine aSq ?_; refine aSR ?_; intro _; refine dr ?_; refine aBk ?_; refine awp_loop (α := Nat × Int × (List Fact)) (fun x => mkS 27 [(3, .own 23 0 0 x.2.2.length), (7, .sl 1 (a0.map cI)), (8, .c (.int .i64 ((a0.map cI).length : Int))), (9, .c (.int .i64 x.2.1))] [(23, ⟨39, 2, false, x.2.2.map cF⟩)]) (fun x => M_r33_Facts_L2 a0 x.1 x.2.1 x.2.2 = some r1) (fun x => x.1) ((((a0.map cI).length : Int)).toNat + 1, 0, []) h ?_ ?_
  · exact ca_0
  · intro x1 h; intro _; obtain ⟨k33, m2, h⟩ := succ_of (f := fun n => M_r33_Facts_L2 a0 n x1.2.1 x1.2.2) rfl h; replace h : M_r33_Facts_L2 a0 (k33 + 1) x1.2.1 x1.2.2 = some r1 := h; rw [M_r33_Facts_L2] at h; refine aSR ?_; intro _; refine dr ?_; refine aSq ?_; refine aCd ?_; intro _; refine spl h (fun c3 h => ?_) (fun c3 h => ?_)
    · refine aSk ?_; obtain ⟨o4, h, hK5⟩ := ob1_ok h; refine awp_cut (α := List Fact) (fun v40 => mkS 27 [(3, .own 23 0 0 v40.length), (7, .sl 1 (a0.map cI)), (8, .c (.int .i64 ((a0.map cI).length : Int))), (9, .c (.int .i64 x1.2.1))] [(23, ⟨39, 2, false, v40.map cF⟩)]) (fun v => o4 = v) ?_ ?_
      · refine aBk ?_; refine aSR ?_; intro _; obtain ⟨y42, w6, q7, h⟩ := ix_ok h; refine Exists.intro (cI y42) (And.intro (map_at' w6) ?_); intro _; refine pr ?_; refine dr ?_; refine aSR ?_; intro _; refine dr ?_; refine aBk ?_; refine awp_loop (α := Nat × Int × (List Fact)) (fun x => mkS 27 [(3, .own 23 0 0 x.2.2.length), (4, .c (.int .i64 x1.2.1)), (7, .sl 1 (a0.map cI)), (8, .c (.int .i64 ((a0.map cI).length : Int))), (9, .c (.int .i64 x1.2.1)), (14, .c (.int .i64 y42)), (15, .c (.int .i64 x.2.1))] [(23, ⟨39, 2, false, x.2.2.map cF⟩)]) (fun x => M_r33_Facts_L1 x1.2.1 y42 x.1 x.2.1 x.2.2 = some o4) (fun x => x.1) ((y42).toNat + 1, 0, x1.2.2) h ?_ ?_
        · exact ca_0
        · intro x8 h; intro _; obtain ⟨k47, m9, h⟩ := succ_of (f := fun n => M_r33_Facts_L1 x1.2.1 y42 n x8.2.1 x8.2.2) rfl h; replace h : M_r33_Facts_L1 x1.2.1 y42 (k47 + 1) x8.2.1 x8.2.2 = some o4 := h; rw [M_r33_Facts_L1] at h; refine aSR ?_; intro _; refine dr ?_; refine aSq ?_; refine aCd ?_; intro _; refine spl h (fun c10 h => ?_) (fun c10 h => ?_)
          · refine aSk ?_; refine aSq ?_; refine aBk ?_; refine aSR ?_; intro _; refine dr ?_; refine aRg ?_; intro _; obtain ⟨q11, h⟩ := grd_ok h; refine pl ?_; refine pl ?_; refine And.intro (by first | with_reducible assumption | (show (x8.2.2.length + 1) * 16 ≤ 140737488355328; with_reducible assumption) | omega | (simp; omega)) ?_; refine pe ?_; refine dr ?_; refine aRg ?_; intro _; refine dr ?_; refine ⟨(k47, (IntKind.i64.wrap (x8.2.1 + 1)), (x8.2.2 ++ [(x1.2.1, x8.2.1)])), h, ltS m9, ?_⟩; exact ca_0
          · refine aEx ?_; refine ⟨x8.2.2, (Option.some.inj h).symm, ?_⟩; exact ca_0
      · rintro v40 ho; have ho := ho.symm; subst ho; intro _; replace h := hK5; refine aRg ?_; intro _; refine dr ?_; refine ⟨(k33, (IntKind.i64.wrap (x1.2.1 + 1)), v40), h, ltS m2, ?_⟩; exact ca_0
    · refine aEx ?_; refine aSR ?_; intro _; refine dr ?_; refine aRt ?_; obtain ⟨q12, h⟩ := grd_ok h; intro _; obtain rfl := inj1 h; exact ca_0
end Go.Proofs.YtinnphmnhmdcgaaGreat.Am
namespace Go.Proofs.YtinnphmnhmdcgaaGreat.Am
def M_b_Facts_L1_B (_ : List Fact) (a1 : List Fact) (_y8 : Fact) (v6 : Int) : Unit → (Unit → Option (Bool)) → Option (Bool) := fun _ rc => ixv _y8 (fun y8 =>
       ix a1 v6 (fun y9 =>
        sel (!(y8.1 == y9.1 && y8.2 == y9.2))
         (some false)
         (rc ())))
def M_b_Facts_L1_E (_ : List Fact) (_ : List Fact) : Unit → Option (Bool) := fun _ => some true
theorem M_b_Facts_L1_eq (a0 : List Fact) (a1 : List Fact)  (hl : a0.length < 9223372036854775807) : M_b_Facts_L1 a0 a1 (((a0.map cF).length : Int).toNat + 1) 0 = Rg (M_b_Facts_L1_B a0 a1) (M_b_Facts_L1_E a0 a1) a0 0 () := rg_e1 (L := fun k i _ => M_b_Facts_L1 a0 a1 k i) hl (fun _ _ _ => rfl) ()
def M_r33_Facts_L1_B (v31 : Int) (_ : Int) (v45 : Int) : ((List Fact)) → (((List Fact)) → Option (List Fact)) → Option (List Fact) := fun v46 rc => grd ((v46.length + 1) * 16 ≤ 140737488355328) (rc ((v46 ++ [(v31, v45)])))
def M_r33_Facts_L1_E (_ : Int) (_ : Int) : ((List Fact)) → Option (List Fact) := fun v46 => some v46
theorem M_r33_Facts_L1_eq (v31 : Int) (y42 : Int) (v46 : List Fact) {m : Nat} (hm : y42 = (m : Int)) (hl : m < 9223372036854775807) : M_r33_Facts_L1 v31 y42 ((y42).toNat + 1) 0 v46 = Rn (M_r33_Facts_L1_B v31 y42) (M_r33_Facts_L1_E v31 y42) m 0 v46 := rn_e (L := fun k i v46 => M_r33_Facts_L1 v31 y42 k i v46) hm hl (fun _ _ _ => rfl) v46
def M_r33_Facts_L2_B (_ : List Int) (_y42 : Int) (v31 : Int) : ((List Fact)) → (((List Fact)) → Option (List Fact)) → Option (List Fact) := fun v32 rc => ob1 (ixv _y42 (fun y42 =>
        M_r33_Facts_L1 v31 y42 ((y42).toNat + 1) 0 v32) : Option (List Fact))
       (fun v40 => rc (v40))
def M_r33_Facts_L2_E (_ : List Int) : ((List Fact)) → Option (List Fact) := fun v32 => grd (v32.length ≤ 140737488355328) (some v32)
theorem M_r33_Facts_L2_eq (a0 : List Int) (v32 : List Fact) (hl : a0.length < 9223372036854775807) : M_r33_Facts_L2 a0 (((a0.map cI).length : Int).toNat + 1) 0 v32 = Rg (M_r33_Facts_L2_B a0) (M_r33_Facts_L2_E a0) a0 0 v32 := rg_e2 (L := fun k i v32 => M_r33_Facts_L2 a0 k i v32) hl (fun k n p y hy h1 h2 => by first | (simp only [M_r33_Facts_L2, M_r33_Facts_L2_B, List.length_map, decide_lt h1, sel, ix_at hy, ixv, h2]; done) | (simp only [List.length_map] at h1 hy; (simp only [M_r33_Facts_L2, M_r33_Facts_L2_B, List.length_map, decide_lt h1, sel, ix_at hy, ixv, h2]; done))) (fun k p => by simp only [M_r33_Facts_L2, M_r33_Facts_L2_E, List.length_map, decide_ge, sel]) v32
end Go.Proofs.YtinnphmnhmdcgaaGreat.Am
namespace Go.Proofs.YtinnphmnhmdcgaaGreat.Am
open Go.RowKit
structure EdgP (t : GTask) (e : GEdge) : Prop where
  ex : ∃ (a b q : Nat) (s : List Int) (o : GOp), e.From = (a : Int) ∧ e.To = (b : Int) ∧ e.Op = (q : Int) ∧ (allF t)[a]? = some s ∧ (allF t)[b]? = some (nextF s o) ∧ t.Ops[q]? = some o ∧ holdsF s o.Pre = true
end Go.Proofs.YtinnphmnhmdcgaaGreat.Am
namespace Go.Proofs.YtinnphmnhmdcgaaGreat.Am
open Go.RowKit
def fit3F (t : GTask) : Bool := tameF t && (decide (t.Ops.length ≤ 10) && decide (t.Vars.length ≤ 6))
theorem fit3_eq (t : GTask) (ht : ShT t) : M_l33_fit t = some (fit3F t) := by
  rw [M_l33_fit, tame_eq t ht, ob1_some, List.length_map, List.length_map, fit3F]
  have e1 : decide ((t.Ops.length : Int) ≤ 10) = decide (t.Ops.length ≤ 10) := decide_eq_decide.2 (by omega)
  have e2 : decide ((t.Vars.length : Int) ≤ 6) = decide (t.Vars.length ≤ 6) := decide_eq_decide.2 (by omega)
  rw [e1, e2]
  cases tameF t <;> cases decide (t.Ops.length ≤ 10) <;> rfl
theorem fit3_of {t : GTask} (h : fit3F t = true) : Fit3 t := by
  unfold fit3F at h
  rw [Bool.and_eq_true, Bool.and_eq_true, decide_eq_true_iff, decide_eq_true_iff] at h
  obtain ⟨h1, h2, h3⟩ := h
  have hs := tame_small h1
  obtain ⟨hg, hv, -⟩ := small_good hs
  unfold tameF at h1
  simp only [Bool.and_eq_true, List.all_eq_true, decide_eq_true_iff] at h1
  have hd := h1.2.1
  have hp : prodN t.Vars ≤ 512 := by
    have hm := manyF_prod 512 t.Vars 1 (fun k hk => by have := hd k hk; omega) (by decide) (by decide)
    rw [show ((512 : Nat) : Int) = 512 from rfl, show ((1 : Nat) : Int) = 1 from rfl, Nat.one_mul] at hm
    have h512 : manyF 512 t.Vars 1 ≤ 512 := by
      have := hs
      unfold smallF at this
      simp only [Bool.and_eq_true, decide_eq_true_iff] at this
      exact this.2.2.2
    rw [hm] at h512
    split at h512 <;> omega
  refine ⟨hg, hs, h2, h3, hd, hp, fun o ho => ?_⟩
  have := h1.2.2 o ho
  unfold tameO twoF at this
  simp only [Bool.and_eq_true, List.all_eq_true, decide_eq_true_iff] at this
  exact this
def tA : GTask := { Vars := [3], Init := [0], Goal := [], Ops := [{ Name := (⟨#[]⟩ : ByteArray), Cost := 0, Pre := [], Effs := [{ When := [], Var := 0, Val := 1 : GEffect }] : GOp }] }
def oA : GOp := { Name := (⟨#[]⟩ : ByteArray), Cost := 0, Pre := [], Effs := [{ When := [], Var := 0, Val := 1 : GEffect }] }
theorem tA_fit : Fit3 tA := fit3_of (by rfl)
theorem tA_sh : ShT tA := ⟨by show _ ≤ _; decide, by show _ ≤ _; decide, by show _ ≤ _; decide, by show _ ≤ _; decide, fun o ho => by
  obtain rfl : o = oA := List.mem_singleton.1 ho
  exact ⟨by show _ ≤ _; decide, by show _ ≤ _; decide, by show _ ≤ _; decide, fun e he => by
    obtain rfl := List.mem_singleton.1 he
    show _ ≤ _
    decide⟩⟩
theorem tA_not : regG [3] oA [(0, 2)] [[]] = some [] := by rfl
theorem tA_reg : regS tA oA [(0, 2)] = [] := by
  have h : regO tA.Vars oA [(0, 2)] = some (sortLL (minF [])) := by
    rw [regO]
    show (regG [3] oA [(0, 2)] [[]]).map _ = _
    rw [tA_not]
    rfl
  rw [regS, h, Option.getD_some]
  refine List.length_eq_zero_iff.1 ?_
  rw [sortLL_length]
  rfl
theorem tA_new (g : Nat) (hg : 1000000 ≤ g) : ∃ R, M_mutex_New g tA = some (some (tbl tA R), Er.nil) ∧ MxR tA R ∧ isF tA R (0, 2) (0, 2) = false := by
  have h2 : InV tA.Vars (0, 2) := ⟨by decide, by decide, by decide, by decide⟩
  refine new_eq tA_fit tA_sh g hg (Q := fun R => isF tA R (0, 2) (0, 2) = false) (fun R a b hR _ hq hs hm => ?_) (fun R _ _ hi => ?_)
  · refine Bool.eq_false_iff.2 fun h => ?_
    rcases (put_is hR tA_fit.sz.pos hs.ia hs.ib h2 h2).1 h with h | ⟨h, h'⟩ | ⟨h, h'⟩
    · rw [hq] at h; cases h
    · rw [← h, ← h'] at hm
      obtain ⟨o, ho, hm⟩ := List.any_eq_true.1 hm
      obtain rfl : o = oA := List.mem_singleton.1 ho
      rw [madeO, show pset ((0 : Int), (2 : Int)) (0, 2) = [(0, 2)] from rfl, tA_reg, List.any_nil, Bool.and_false] at hm
      cases hm
    · rw [← h, ← h'] at hm
      obtain ⟨o, ho, hm⟩ := List.any_eq_true.1 hm
      obtain rfl : o = oA := List.mem_singleton.1 ho
      rw [madeO, show pset ((0 : Int), (2 : Int)) (0, 2) = [(0, 2)] from rfl, tA_reg, List.any_nil, Bool.and_false] at hm
      cases hm
  · refine Bool.eq_false_iff.2 fun h => ?_
    have := ((hi _ _ h2 h2).1 h).1
    exact absurd this (by decide)
theorem awake3 (g : Nat) (hg : 1000000 ≤ g) : M_l33_awake g = some true := by
  obtain ⟨R, h1, h2, h3⟩ := tA_new g hg
  have hz := tA_fit.sz
  have hin : InV tA.Vars (0, 1) := ⟨by decide, by decide, by decide, by decide⟩
  have hs : StP tA.Vars tA.Init := stateF_st (good_init tA_fit.good)
  have hal : Alive tA R tA.Init := fun a b ha hb => h2.init a b ha hb
  have h4 : isF tA R (0, 1) (0, 1) = true := alive_step tA_fit h2.closed hs hal (o := oA) (List.mem_singleton.2 rfl) (by decide) ⟨hin, hin, .inl rfl⟩ (by decide) (by decide) (.inl rfl)
  rw [M_l33_awake]
  show ob2 (M_mutex_New g tA) _ = _
  rw [h1, ob2_some]
  show ob1 (M_stratagem_mutex_Table_Reached (some (tbl tA R)) (0, 1)) _ = _
  have e1 : reaF tA R (0, 1) = true := by rw [reaF, h4]; rfl
  have e2 : reaF tA R (0, 2) = false := by rw [reaF, h3, Bool.and_false]
  rw [reached_eq hz h2.rk, ob1_some, e1, sel_tt, reached_eq hz h2.rk, ob1_some, e2]
  rfl
theorem law_head {t : GTask} (ht : ShT t) (g : Nat) (hg : 1000000 ≤ g) {k : Unit → Option Bool} (h : Fit3 t → k () = some true) : ob1 (ob1 (M_l33_fit t) (fun z7 =>
    sel (!z7)
     (ob1 (M_l33_awake g) (fun z10 =>
       some (.inr z10)))
     (ob1 (M_l33_awake g) (fun z8 =>
       sel (!z8)
        (ob1 (M_l33_awake g) (fun z9 =>
          some (.inr z9)))
        (some (.inl ()))))) : Option (Unit ⊕ Bool)) (osum k (fun r5 => some r5)) = some true := by
  rw [fit3_eq t ht, ob1_some, awake3 g hg, ob1_some, ob1_some]
  cases hf : fit3F t with
  | false => rfl
  | true =>
    rw [Bool.not_true, sel_ff, sel_ff, ob1_some, osum_inl]
    exact h (fit3_of hf)
end Go.Proofs.YtinnphmnhmdcgaaGreat.Am
namespace Go.Proofs.YtinnphmnhmdcgaaGreat.Am
open Go.RowKit
def erN : Er → Int
  | .nil => 0
  | .no e => e
end Go.Proofs.YtinnphmnhmdcgaaGreat.Am
namespace Go.Proofs.YtinnphmnhmdcgaaGreat.Am
set_option maxHeartbeats 16000000
set_option maxRecDepth 100000
open Go.RowKit
def M_l30_Same_L1 (a0 : GCertificate) (a1 : GCertificate) : Nat → Int → Option (Bool)
  | 0, _ => none
  | k15 + 1, v14 =>
    sel (decide (v14 < ((a0.Nogoods.map cN).length : Int)))
     (ix a0.Nogoods v14 (fun y16 =>
       ix a1.Nogoods v14 (fun y17 =>
        sel (y16.2 != y17.2)
         (some false)
         (ix a0.Nogoods v14 (fun y18 =>
           ix a1.Nogoods v14 (fun y19 =>
            ob1 (M_b_Facts y18.1 y19.1) (fun z20 =>
             sel (!z20)
              (some false)
              (M_l30_Same_L1 a0 a1 k15 (IntKind.i64.wrap (v14 + 1))))))))))
     (some true)
def M_l30_Same (a0 : GCertificate) (a1 : GCertificate) : Option (Bool) :=
  ob1 (sel (a0.Bound != a1.Bound)
    (some (.inr false))
    (sel (((a0.Nogoods.map cN).length : Int) != ((a1.Nogoods.map cN).length : Int))
      (some (.inr false))
      (some (.inl ()))) : Option (Unit ⊕ Bool))
   (osum
   (fun _ => M_l30_Same_L1 a0 a1 ((((a0.Nogoods.map cN).length : Int)).toNat + 1) 0)
   (fun r1 => some r1))
theorem A_l30_Same (a0 : GCertificate) (a1 : GCertificate) {r1 : Bool} (h : M_l30_Same a0 a1 = some r1) : ACall cx 50 [.agg [.c (.int .i64 a0.Bound), .sl 2 (a0.Nogoods.map cN)], .agg [.c (.int .i64 a1.Bound), .sl 2 (a1.Nogoods.map cN)]] (.c (.bool r1)) := by
  refine aOf Tryz.func50 rfl (by decide) rfl (Nat.le_of_ble_eq_true rfl) ?_; intro _; unfold M_l30_Same at h; refine aSR ?_; intro _; refine dr ?_; obtain ⟨o1, h, hK2⟩ := ob1_ok h; refine awp_cut (α := Unit) (fun _ => mkS 56 [(2, .ptr 2 0 0 0), (3, .ptr 3 0 0 0)] [(2, ⟨51, 2, true, [[.c (.int .i64 a0.Bound), .sl 2 (a0.Nogoods.map cN)]]⟩), (3, ⟨51, 2, true, [[.c (.int .i64 a1.Bound), .sl 2 (a1.Nogoods.map cN)]]⟩)]) (fun v => o1 = (.inl v)) ?_ ?_
  · refine aSR ?_; intro _; refine spf h (fun c3 h => ?_) (fun c3 h => ?_)
    · intro _; refine dr ?_; refine aCd ?_; intro _; refine spl h (fun c4 h => ?_) (fun c4 h => ?_)
      · refine aSR ?_; intro _; refine dr ?_; refine aRt ?_; have j5 := Option.some.inj h; subst j5; replace h := (osum_r hK2); intro _; obtain rfl := inj1 h; exact ca_0
      · refine aSk ?_; refine ⟨(), (Option.some.inj h).symm, ?_⟩; exact ca_0
    · intro _; refine dr ?_; refine aCd ?_; intro _; refine litT ?_; refine aSR ?_; intro _; refine dr ?_; refine aRt ?_; have j6 := Option.some.inj h; subst j6; replace h := (osum_r hK2); intro _; obtain rfl := inj1 h; exact ca_0
  · rintro _ ho; have ho := ho.symm; subst ho; intro _; replace h := (osum_l hK2); refine aSq ?_; refine aSR ?_; intro _; refine dr ?_; refine aBk ?_; refine awp_loop (α := Nat × Int) (fun x => mkS 56 [(2, .ptr 2 0 0 0), (3, .ptr 3 0 0 0), (22, .c (.int .i64 ((a0.Nogoods.map cN).length : Int))), (23, .c (.int .i64 x.2))] [(2, ⟨51, 2, true, [[.c (.int .i64 a0.Bound), .sl 2 (a0.Nogoods.map cN)]]⟩), (3, ⟨51, 2, true, [[.c (.int .i64 a1.Bound), .sl 2 (a1.Nogoods.map cN)]]⟩)]) (fun x => M_l30_Same_L1 a0 a1 x.1 x.2 = some r1) (fun x => x.1) ((((a0.Nogoods.map cN).length : Int)).toNat + 1, 0) h ?_ ?_
    · exact ca_0
    · intro x7 h; intro _; obtain ⟨k15, m8, h⟩ := succ_of (f := fun n => M_l30_Same_L1 a0 a1 n x7.2) rfl h; replace h : M_l30_Same_L1 a0 a1 (k15 + 1) x7.2 = some r1 := h; rw [M_l30_Same_L1] at h; refine aSR ?_; intro _; refine dr ?_; refine aSq ?_; refine aCd ?_; intro _; refine spl h (fun c9 h => ?_) (fun c9 h => ?_)
      · refine aSk ?_; refine aSq ?_; refine aBk ?_; refine aSR ?_; intro _; refine dr ?_; refine aSR ?_; intro _; obtain ⟨y16, w10, q11, h⟩ := ix_ok h; refine Exists.intro (cN y16) (And.intro (map_at' w10) ?_); intro _; obtain ⟨y17, w12, q13, h⟩ := ix_ok h; refine Exists.intro (cN y17) (And.intro (map_at' w12) ?_); intro _; refine spf h (fun c14 h => ?_) (fun c14 h => ?_)
        · intro _; obtain ⟨y18, w15, q16, h⟩ := ix_ok h; refine Exists.intro (cN y18) (And.intro (map_at' w15) ?_); intro _; obtain ⟨y19, w17, q18, h⟩ := ix_ok h; refine Exists.intro (cN y19) (And.intro (map_at' w17) ?_); intro _; obtain ⟨z20, u19, h⟩ := ob1_ok h; refine cl rfl (A_b_Facts y18.1 y19.1 u19) ?_; intro _; refine pr ?_; refine pr ?_; refine pr ?_; refine pr ?_; refine dr ?_; refine aCd ?_; intro _; refine spl h (fun c20 h => ?_) (fun c20 h => ?_)
          · refine aSR ?_; intro _; refine dr ?_; refine aRt ?_; intro _; obtain rfl := inj1 h; exact ca_0
          · refine aSk ?_; refine aRg ?_; intro _; refine dr ?_; refine ⟨(k15, (IntKind.i64.wrap (x7.2 + 1))), h, ltS m8, ?_⟩; exact ca_0
        · intro _; refine pr ?_; refine pr ?_; refine dr ?_; refine aCd ?_; intro _; refine litT ?_; refine aSR ?_; intro _; refine dr ?_; refine aRt ?_; intro _; obtain rfl := inj1 h; exact ca_0
      · refine aEx ?_; refine aSR ?_; intro _; refine dr ?_; refine aRt ?_; intro _; obtain rfl := inj1 h; exact ca_0
def M_l33_same (a0 : List Nogood) (a1 : List Nogood) : Option (Bool) :=
  ob1 (M_l30_Same ({ Bound := 0, Nogoods := a0 : GCertificate }) ({ Bound := 0, Nogoods := a1 : GCertificate })) (fun z1 =>
   some z1)
theorem A_l33_same (a0 : List Nogood) (a1 : List Nogood) {r1 : Bool} (h : M_l33_same a0 a1 = some r1) : ACall cx 18 [.sl 2 (a0.map cN), .sl 2 (a1.map cN)] (.c (.bool r1)) := by
  refine aOf Tryz.func18 rfl (by decide) rfl (Nat.le_of_ble_eq_true rfl) ?_; intro _; unfold M_l33_same at h; refine aSR ?_; intro _; refine dr ?_; refine aSR ?_; intro _; obtain ⟨z1, u1, h⟩ := ob1_ok h; refine cl rfl (A_l30_Same ({ Bound := 0, Nogoods := a0 : GCertificate }) ({ Bound := 0, Nogoods := a1 : GCertificate }) u1) ?_; intro _; refine dr ?_; refine aRt ?_; intro _; obtain rfl := inj1 h; exact ca_0
def M_r06_Is_L1 (a0 : List Fact) : Nat → Int → Option (Bool)
  | 0, _ => none
  | k6 + 1, v5 =>
    sel (decide (v5 < ((a0.map cF).length : Int)))
     (ix a0 v5 (fun y7 =>
       sel (decide (y7.1 < 0))
        (some false)
        (sel (decide (y7.2 < 0))
          (some false)
          (sel (decide (v5 > 0))
            (ix a0 (IntKind.i64.wrap (v5 - 1)) (fun y8 =>
              sel (decide (y8.1 ≥ y7.1))
               (some false)
               (M_r06_Is_L1 a0 k6 (IntKind.i64.wrap (v5 + 1)))))
            (M_r06_Is_L1 a0 k6 (IntKind.i64.wrap (v5 + 1)))))))
     (some true)
def M_r06_Is (a0 : List Fact) : Option (Bool) :=
  M_r06_Is_L1 a0 ((((a0.map cF).length : Int)).toNat + 1) 0
theorem A_r06_Is (a0 : List Fact) {r1 : Bool} (h : M_r06_Is a0 = some r1) : ACall cx 80 [.sl 2 (a0.map cF)] (.c (.bool r1)) := by
  refine aOf Tryz.func80 rfl (by decide) rfl (Nat.le_of_ble_eq_true rfl) ?_; intro _; unfold M_r06_Is at h; refine aSR ?_; intro _; refine dr ?_; refine aSq ?_; refine aSR ?_; intro _; refine dr ?_; refine aBk ?_; refine awp_loop (α := Nat × Int) (fun x => mkS 36 [(0, .sl 2 (a0.map cF)), (5, .sl 2 (a0.map cF)), (6, .c (.int .i64 ((a0.map cF).length : Int))), (7, .c (.int .i64 x.2))] []) (fun x => M_r06_Is_L1 a0 x.1 x.2 = some r1) (fun x => x.1) ((((a0.map cF).length : Int)).toNat + 1, 0) h ?_ ?_
  · exact ca_0
  · intro x1 h; intro _; obtain ⟨k6, m2, h⟩ := succ_of (f := fun n => M_r06_Is_L1 a0 n x1.2) rfl h; replace h : M_r06_Is_L1 a0 (k6 + 1) x1.2 = some r1 := h; rw [M_r06_Is_L1] at h; refine aSR ?_; intro _; refine dr ?_; refine aSq ?_; refine aCd ?_; intro _; refine spl h (fun c3 h => ?_) (fun c3 h => ?_)
    · refine aSk ?_; refine aSq ?_; refine aBk ?_; refine aSR ?_; intro _; obtain ⟨y7, w4, q5, h⟩ := ix_ok h; refine Exists.intro (cF y7) (And.intro (map_at' w4) ?_); intro _; refine pr ?_; refine dr ?_; refine aSR ?_; intro _; refine spf h (fun c6 h => ?_) (fun c6 h => ?_)
      · intro _; refine spf h (fun c7 h => ?_) (fun c7 h => ?_)
        · intro _; refine spl h (fun c8 h => ?_) (fun c8 h => ?_)
          · intro _; obtain ⟨y8, w9, q10, h⟩ := ix_ok h; refine Exists.intro (cF y8) (And.intro (map_at' w9) ?_); intro _; refine pr ?_; refine dr ?_; refine aCd ?_; intro _; refine spl h (fun c11 h => ?_) (fun c11 h => ?_)
            · refine aSR ?_; intro _; refine dr ?_; refine aRt ?_; intro _; obtain rfl := inj1 h; exact ca_0
            · refine aSk ?_; refine aRg ?_; intro _; refine dr ?_; refine ⟨(k6, (IntKind.i64.wrap (x1.2 + 1))), h, ltS m2, ?_⟩; exact ca_0
          · intro _; refine dr ?_; refine aCd ?_; intro _; refine litF ?_; refine aSk ?_; refine aRg ?_; intro _; refine dr ?_; refine ⟨(k6, (IntKind.i64.wrap (x1.2 + 1))), h, ltS m2, ?_⟩; exact ca_0
        · intro _; refine dr ?_; refine aCd ?_; intro _; refine litT ?_; refine aSR ?_; intro _; refine dr ?_; refine aRt ?_; intro _; obtain rfl := inj1 h; exact ca_0
      · intro _; refine dr ?_; refine aCd ?_; intro _; refine litT ?_; refine aSR ?_; intro _; refine dr ?_; refine aRt ?_; intro _; obtain rfl := inj1 h; exact ca_0
    · refine aEx ?_; refine aSR ?_; intro _; refine dr ?_; refine aRt ?_; intro _; obtain rfl := inj1 h; exact ca_0
def M_r30_Check_L1 (y111 : Nogood) : Nat → Int → Option (Unit ⊕ Int)
  | 0, _ => none
  | k117 + 1, v116 =>
    sel (decide (v116 < ((y111.1.map cF).length : Int)))
     (ix y111.1 v116 (fun y118 =>
       sel (decide (y118.1 ≥ 64))
        (some (.inr 2))
        (sel (decide (y118.2 ≥ 64))
          (some (.inr 2))
          (M_r30_Check_L1 y111 k117 (IntKind.i64.wrap (v116 + 1))))))
     (some (.inl ()))
def M_r30_Check_L2 (a0 : GCertificate) : Nat → Int → Option (Unit ⊕ Int)
  | 0, _ => none
  | k100 + 1, v99 =>
    sel (decide (v99 < ((a0.Nogoods.map cN).length : Int)))
     (ob1 (ix a0.Nogoods v99 (fun y111 =>
        ob1 (M_r06_Is y111.1) (fun z112 =>
         sel (!z112)
          (some (.inr 2))
          (M_r30_Check_L1 y111 ((((y111.1.map cF).length : Int)).toNat + 1) 0))) : Option (Unit ⊕ Int))
       (osum
       (fun _ => M_r30_Check_L2 a0 k100 (IntKind.i64.wrap (v99 + 1)))
       (fun r109 => some (.inr r109))))
     (some (.inl ()))
def M_r30_Check_L3 (a0 : GCertificate) : Nat → Int → Option (Int)
  | 0, _ => none
  | k123 + 1, v122 =>
    sel (decide (v122 < ((a0.Nogoods.map cN).length : Int)))
     (ix a0.Nogoods v122 (fun y124 =>
       sel (decide (y124.2 < 0))
        (some 1)
        (sel (decide (a0.Bound ≥ 0))
          (sel (decide (y124.2 ≥ a0.Bound))
            (some 1)
            (sel (decide (a0.Bound < 0))
              (sel (y124.2 != 0)
                (some 1)
                (M_r30_Check_L3 a0 k123 (IntKind.i64.wrap (v122 + 1))))
              (M_r30_Check_L3 a0 k123 (IntKind.i64.wrap (v122 + 1)))))
          (sel (decide (a0.Bound < 0))
            (sel (y124.2 != 0)
              (some 1)
              (M_r30_Check_L3 a0 k123 (IntKind.i64.wrap (v122 + 1))))
            (M_r30_Check_L3 a0 k123 (IntKind.i64.wrap (v122 + 1)))))))
     (some 0)
def M_r30_Check (a0 : GCertificate) : Option (Int) :=
  ob1 (sel (decide (a0.Bound < (-1)))
    (some (.inr 1))
    (sel (decide (a0.Bound > 1099511627776))
      (some (.inr 1))
      (some (.inl ()))) : Option (Unit ⊕ Int))
   (osum
   (fun _ => sel (decide (((a0.Nogoods.map cN).length : Int) > 4096))
      (some 5)
      (ob1 (M_r30_Check_L2 a0 ((((a0.Nogoods.map cN).length : Int)).toNat + 1) 0 : Option (Unit ⊕ Int))
        (osum
        (fun _ => M_r30_Check_L3 a0 ((((a0.Nogoods.map cN).length : Int)).toNat + 1) 0)
        (fun r60 => some r60))))
   (fun r1 => some r1))
theorem A_r30_Check (a0 : GCertificate) {r1 : Int} (h : M_r30_Check a0 = some r1) : ACall cx 51 [.agg [.c (.int .i64 a0.Bound), .sl 2 (a0.Nogoods.map cN)]] (.c (.int .i64 r1)) := by
  refine aOf Tryz.func51 rfl (by decide) rfl (Nat.le_of_ble_eq_true rfl) ?_; intro _; unfold M_r30_Check at h; refine aSR ?_; intro _; refine dr ?_; obtain ⟨o1, h, hK2⟩ := ob1_ok h; refine awp_cut (α := Unit) (fun _ => mkS 82 [(1, .ptr 1 0 0 0)] [(1, ⟨51, 2, true, [[.c (.int .i64 a0.Bound), .sl 2 (a0.Nogoods.map cN)]]⟩)]) (fun v => o1 = (.inl v)) ?_ ?_
  · refine aSR ?_; intro _; refine spf h (fun c3 h => ?_) (fun c3 h => ?_)
    · intro _; refine dr ?_; refine aCd ?_; intro _; refine spl h (fun c4 h => ?_) (fun c4 h => ?_)
      · refine aSR ?_; intro _; refine dr ?_; refine aRt ?_; have j5 := Option.some.inj h; subst j5; replace h := (osum_r hK2); intro _; obtain rfl := inj1 h; exact ca_0
      · refine aSk ?_; refine ⟨(), (Option.some.inj h).symm, ?_⟩; exact ca_0
    · intro _; refine dr ?_; refine aCd ?_; intro _; refine litT ?_; refine aSR ?_; intro _; refine dr ?_; refine aRt ?_; have j6 := Option.some.inj h; subst j6; replace h := (osum_r hK2); intro _; obtain rfl := inj1 h; exact ca_0
  · rintro _ ho; have ho := ho.symm; subst ho; intro _; replace h := (osum_l hK2); refine aSq ?_; refine aSR ?_; intro _; refine dr ?_; refine aCd ?_; intro _; refine spl h (fun c7 h => ?_) (fun c7 h => ?_)
    · refine aSR ?_; intro _; refine dr ?_; refine aRt ?_; intro _; obtain rfl := inj1 h; exact ca_0
    · refine aSk ?_; obtain ⟨o8, h, hK9⟩ := ob1_ok h; refine awp_cut (α := Unit) (fun _ => mkS 82 [(1, .ptr 1 0 0 0)] [(1, ⟨51, 2, true, [[.c (.int .i64 a0.Bound), .sl 2 (a0.Nogoods.map cN)]]⟩)]) (fun v => o8 = (.inl v)) ?_ ?_
      · refine aSR ?_; intro _; refine dr ?_; refine aBk ?_; refine awp_loop (α := Nat × Int) (fun x => mkS 82 [(1, .ptr 1 0 0 0), (22, .sl 2 (a0.Nogoods.map cN)), (23, .c (.int .i64 ((a0.Nogoods.map cN).length : Int))), (24, .c (.int .i64 x.2))] [(1, ⟨51, 2, true, [[.c (.int .i64 a0.Bound), .sl 2 (a0.Nogoods.map cN)]]⟩)]) (fun x => M_r30_Check_L2 a0 x.1 x.2 = some o8) (fun x => x.1) ((((a0.Nogoods.map cN).length : Int)).toNat + 1, 0) h ?_ ?_
        · exact ca_0
        · intro x10 h; intro _; obtain ⟨k100, m11, h⟩ := succ_of (f := fun n => M_r30_Check_L2 a0 n x10.2) rfl h; replace h : M_r30_Check_L2 a0 (k100 + 1) x10.2 = some o8 := h; rw [M_r30_Check_L2] at h; refine aSR ?_; intro _; refine dr ?_; refine aSq ?_; refine aCd ?_; intro _; refine spl h (fun c12 h => ?_) (fun c12 h => ?_)
          · refine aSk ?_; obtain ⟨o13, h, hK14⟩ := ob1_ok h; refine awp_cut (α := Unit) (fun _ => mkS 82 [(1, .ptr 1 0 0 0), (22, .sl 2 (a0.Nogoods.map cN)), (23, .c (.int .i64 ((a0.Nogoods.map cN).length : Int))), (24, .c (.int .i64 x10.2))] [(1, ⟨51, 2, true, [[.c (.int .i64 a0.Bound), .sl 2 (a0.Nogoods.map cN)]]⟩)]) (fun v => o13 = (.inl v)) ?_ ?_
            · refine aBk ?_; refine aSR ?_; intro _; obtain ⟨y111, w15, q16, h⟩ := ix_ok h; refine Exists.intro (cN y111) (And.intro (map_at' w15) ?_); intro _; refine pr ?_; refine dr ?_; refine aSq ?_; refine aSR ?_; intro _; obtain ⟨z112, u17, h⟩ := ob1_ok h; refine cl rfl (A_r06_Is y111.1 u17) ?_; intro _; refine dr ?_; refine aCd ?_; intro _; refine spl h (fun c18 h => ?_) (fun c18 h => ?_)
              · refine aSR ?_; intro _; refine dr ?_; refine aRt ?_; have j19 := Option.some.inj h; subst j19; replace h := (osum_r hK14); have j20 := Option.some.inj h; subst j20; replace h := (osum_r hK9); intro _; obtain rfl := inj1 h; exact ca_0
              · refine aSk ?_; refine aSR ?_; intro _; refine dr ?_; refine aBk ?_; refine awp_loop (α := Nat × Int) (fun x => mkS 82 [(1, .ptr 1 0 0 0), (22, .sl 2 (a0.Nogoods.map cN)), (23, .c (.int .i64 ((a0.Nogoods.map cN).length : Int))), (24, .c (.int .i64 x10.2)), (33, .sl 2 (y111.1.map cF)), (34, .c (.int .i64 ((y111.1.map cF).length : Int))), (35, .c (.int .i64 x.2))] [(1, ⟨51, 2, true, [[.c (.int .i64 a0.Bound), .sl 2 (a0.Nogoods.map cN)]]⟩)]) (fun x => M_r30_Check_L1 y111 x.1 x.2 = some o13) (fun x => x.1) ((((y111.1.map cF).length : Int)).toNat + 1, 0) h ?_ ?_
                · exact ca_0
                · intro x21 h; intro _; obtain ⟨k117, m22, h⟩ := succ_of (f := fun n => M_r30_Check_L1 y111 n x21.2) rfl h; replace h : M_r30_Check_L1 y111 (k117 + 1) x21.2 = some o13 := h; rw [M_r30_Check_L1] at h; refine aSR ?_; intro _; refine dr ?_; refine aSq ?_; refine aCd ?_; intro _; refine spl h (fun c23 h => ?_) (fun c23 h => ?_)
                  · refine aSk ?_; refine aSq ?_; refine aBk ?_; refine aSR ?_; intro _; obtain ⟨y118, w24, q25, h⟩ := ix_ok h; refine Exists.intro (cF y118) (And.intro (map_at' w24) ?_); intro _; refine pr ?_; refine dr ?_; refine aSR ?_; intro _; refine spf h (fun c26 h => ?_) (fun c26 h => ?_)
                    · intro _; refine dr ?_; refine aCd ?_; intro _; refine spl h (fun c27 h => ?_) (fun c27 h => ?_)
                      · refine aSR ?_; intro _; refine dr ?_; refine aRt ?_; have j28 := Option.some.inj h; subst j28; replace h := (osum_r hK14); have j29 := Option.some.inj h; subst j29; replace h := (osum_r hK9); intro _; obtain rfl := inj1 h; exact ca_0
                      · refine aSk ?_; refine aRg ?_; intro _; refine dr ?_; refine ⟨(k117, (IntKind.i64.wrap (x21.2 + 1))), h, ltS m22, ?_⟩; exact ca_0
                    · intro _; refine dr ?_; refine aCd ?_; intro _; refine litT ?_; refine aSR ?_; intro _; refine dr ?_; refine aRt ?_; have j30 := Option.some.inj h; subst j30; replace h := (osum_r hK14); have j31 := Option.some.inj h; subst j31; replace h := (osum_r hK9); intro _; obtain rfl := inj1 h; exact ca_0
                  · refine aEx ?_; refine ⟨(), (Option.some.inj h).symm, ?_⟩; exact ca_0
            · rintro _ ho; have ho := ho.symm; subst ho; intro _; replace h := (osum_l hK14); refine aRg ?_; intro _; refine dr ?_; refine ⟨(k100, (IntKind.i64.wrap (x10.2 + 1))), h, ltS m11, ?_⟩; exact ca_0
          · refine aEx ?_; refine ⟨(), (Option.some.inj h).symm, ?_⟩; exact ca_0
      · rintro _ ho; have ho := ho.symm; subst ho; intro _; replace h := (osum_l hK9); refine aSq ?_; refine aSR ?_; intro _; refine dr ?_; refine aBk ?_; refine awp_loop (α := Nat × Int) (fun x => mkS 82 [(1, .ptr 1 0 0 0), (50, .sl 2 (a0.Nogoods.map cN)), (51, .c (.int .i64 ((a0.Nogoods.map cN).length : Int))), (52, .c (.int .i64 x.2))] [(1, ⟨51, 2, true, [[.c (.int .i64 a0.Bound), .sl 2 (a0.Nogoods.map cN)]]⟩)]) (fun x => M_r30_Check_L3 a0 x.1 x.2 = some r1) (fun x => x.1) ((((a0.Nogoods.map cN).length : Int)).toNat + 1, 0) h ?_ ?_
        · exact ca_0
        · intro x32 h; intro _; obtain ⟨k123, m33, h⟩ := succ_of (f := fun n => M_r30_Check_L3 a0 n x32.2) rfl h; replace h : M_r30_Check_L3 a0 (k123 + 1) x32.2 = some r1 := h; rw [M_r30_Check_L3] at h; refine aSR ?_; intro _; refine dr ?_; refine aSq ?_; refine aCd ?_; intro _; refine spl h (fun c34 h => ?_) (fun c34 h => ?_)
          · refine aSk ?_; refine aSq ?_; refine aBk ?_; refine aSR ?_; intro _; obtain ⟨y124, w35, q36, h⟩ := ix_ok h; refine Exists.intro (cN y124) (And.intro (map_at' w35) ?_); intro _; refine pr ?_; refine dr ?_; refine aSR ?_; intro _; refine spf h (fun c37 h => ?_) (fun c37 h => ?_)
            · intro _; refine spl h (fun c38 h => ?_) (fun c38 h => ?_)
              · intro _; refine spf h (fun c39 h => ?_) (fun c39 h => ?_)
                · intro _; refine spl h (fun c40 h => ?_) (fun c40 h => ?_)
                  · intro _; refine dr ?_; refine aCd ?_; intro _; refine spl h (fun c41 h => ?_) (fun c41 h => ?_)
                    · refine aSR ?_; intro _; refine dr ?_; refine aRt ?_; intro _; obtain rfl := inj1 h; exact ca_0
                    · refine aSk ?_; refine aRg ?_; intro _; refine dr ?_; refine ⟨(k123, (IntKind.i64.wrap (x32.2 + 1))), h, ltS m33, ?_⟩; exact ca_0
                  · intro _; refine dr ?_; refine aCd ?_; intro _; refine litF ?_; refine aSk ?_; refine aRg ?_; intro _; refine dr ?_; refine ⟨(k123, (IntKind.i64.wrap (x32.2 + 1))), h, ltS m33, ?_⟩; exact ca_0
                · intro _; refine dr ?_; refine aCd ?_; intro _; refine litT ?_; refine aSR ?_; intro _; refine dr ?_; refine aRt ?_; intro _; obtain rfl := inj1 h; exact ca_0
              · intro _; refine spl h (fun c42 h => ?_) (fun c42 h => ?_)
                · intro _; refine dr ?_; refine aCd ?_; intro _; refine spl h (fun c43 h => ?_) (fun c43 h => ?_)
                  · refine aSR ?_; intro _; refine dr ?_; refine aRt ?_; intro _; obtain rfl := inj1 h; exact ca_0
                  · refine aSk ?_; refine aRg ?_; intro _; refine dr ?_; refine ⟨(k123, (IntKind.i64.wrap (x32.2 + 1))), h, ltS m33, ?_⟩; exact ca_0
                · intro _; refine dr ?_; refine aCd ?_; intro _; refine litF ?_; refine aSk ?_; refine aRg ?_; intro _; refine dr ?_; refine ⟨(k123, (IntKind.i64.wrap (x32.2 + 1))), h, ltS m33, ?_⟩; exact ca_0
            · intro _; refine dr ?_; refine aCd ?_; intro _; refine litT ?_; refine aSR ?_; intro _; refine dr ?_; refine aRt ?_; intro _; obtain rfl := inj1 h; exact ca_0
          · refine aEx ?_; refine aSR ?_; intro _; refine dr ?_; refine aRt ?_; intro _; obtain rfl := inj1 h; exact ca_0
def M_r30_Proper_L1 (a0 : List Int) (a1 : GCertificate) : Nat → Int → Option (Int)
  | 0, _ => none
  | k8 + 1, v7 =>
    sel (decide (v7 < ((a1.Nogoods.map cN).length : Int)))
     (ix a1.Nogoods v7 (fun y9 =>
       ob1 (M_b_Proper a0 y9.1) (fun z10 =>
        sel (!z10)
         (some 2)
         (M_r30_Proper_L1 a0 a1 k8 (IntKind.i64.wrap (v7 + 1))))))
     (some 0)
def M_r30_Proper (a0 : List Int) (a1 : GCertificate) : Option (Int) :=
  ob1 (M_r30_Check a1) (fun z1 =>
   sel (z1 != 0)
    (some z1)
    (M_r30_Proper_L1 a0 a1 ((((a1.Nogoods.map cN).length : Int)).toNat + 1) 0))
theorem A_r30_Proper (a0 : List Int) (a1 : GCertificate) {r1 : Int} (h : M_r30_Proper a0 a1 = some r1) : ACall cx 21 [.sl 1 (a0.map cI), .agg [.c (.int .i64 a1.Bound), .sl 2 (a1.Nogoods.map cN)]] (.c (.int .i64 r1)) := by
  refine aOf Tryz.func21 rfl (by decide) rfl (Nat.le_of_ble_eq_true rfl) ?_; intro _; unfold M_r30_Proper at h; refine aSR ?_; intro _; refine dr ?_; refine aSq ?_; refine aSR ?_; intro _; obtain ⟨z1, u1, h⟩ := ob1_ok h; refine cl rfl (A_r30_Check a1 u1) ?_; intro _; refine dr ?_; refine aSR ?_; intro _; refine dr ?_; refine aCd ?_; intro _; refine spl h (fun c2 h => ?_) (fun c2 h => ?_)
  · refine aSR ?_; intro _; refine dr ?_; refine aRt ?_; intro _; obtain rfl := inj1 h; exact ca_0
  · refine aSk ?_; refine aSq ?_; refine aSR ?_; intro _; refine dr ?_; refine aBk ?_; refine awp_loop (α := Nat × Int) (fun x => mkS 26 [(0, .sl 1 (a0.map cI)), (14, .sl 2 (a1.Nogoods.map cN)), (15, .c (.int .i64 ((a1.Nogoods.map cN).length : Int))), (16, .c (.int .i64 x.2))] []) (fun x => M_r30_Proper_L1 a0 a1 x.1 x.2 = some r1) (fun x => x.1) ((((a1.Nogoods.map cN).length : Int)).toNat + 1, 0) h ?_ ?_
    · exact ca_0
    · intro x3 h; intro _; obtain ⟨k8, m4, h⟩ := succ_of (f := fun n => M_r30_Proper_L1 a0 a1 n x3.2) rfl h; replace h : M_r30_Proper_L1 a0 a1 (k8 + 1) x3.2 = some r1 := h; rw [M_r30_Proper_L1] at h; refine aSR ?_; intro _; refine dr ?_; refine aSq ?_; refine aCd ?_; intro _; refine spl h (fun c5 h => ?_) (fun c5 h => ?_)
      · refine aSk ?_; refine aSq ?_; refine aBk ?_; refine aSR ?_; intro _; obtain ⟨y9, w6, q7, h⟩ := ix_ok h; refine Exists.intro (cN y9) (And.intro (map_at' w6) ?_); intro _; refine pr ?_; refine dr ?_; refine aSR ?_; intro _; obtain ⟨z10, u8, h⟩ := ob1_ok h; refine cl rfl (A_b_Proper a0 y9.1 u8) ?_; intro _; refine dr ?_; refine aCd ?_; intro _; refine spl h (fun c9 h => ?_) (fun c9 h => ?_)
        · refine aSR ?_; intro _; refine dr ?_; refine aRt ?_; intro _; obtain rfl := inj1 h; exact ca_0
        · refine aSk ?_; refine aRg ?_; intro _; refine dr ?_; refine ⟨(k8, (IntKind.i64.wrap (x3.2 + 1))), h, ltS m4, ?_⟩; exact ca_0
      · refine aEx ?_; refine aSR ?_; intro _; refine dr ?_; refine aRt ?_; intro _; obtain rfl := inj1 h; exact ca_0
def M_l33_MutexNogoods_L1 (z14 : List Fact) (z15 : GTable) : Nat → Int → (List Nogood) → Option ((List Nogood) ⊕ Bool)
  | 0, _, _ => none
  | k63 + 1, v61, v62 =>
    sel (decide (v61 < ((z14.map cF).length : Int)))
     (ix z14 v61 (fun y64 =>
       ob1 (ob1 (M_stratagem_mutex_Table_Reached (some z15) y64) (fun z68 =>
         sel (!z68)
          (grd ((v62.length + 1) * 32 ≤ 140737488355328) (some (v62 ++ [([y64], 0)])))
          (some v62)) : Option (List Nogood))
        (fun v66 => ob1 (M_stratagem_mutex_Table_Together (some z15) y64 y64) (fun z69 =>
           ob1 (M_stratagem_mutex_Table_Reached (some z15) y64) (fun z70 =>
            sel (!(z69 == z70))
             (some (.inr false))
             (M_l33_MutexNogoods_L1 z14 z15 k63 (IntKind.i64.wrap (v61 + 1)) v66))))))
     (some (.inl v62))
def M_l33_MutexNogoods_L2 (v546 : Int) (y597 : Fact) (z14 : List Fact) (z15 : GTable) : Nat → Int → (List Nogood) → Option ((List Nogood) ⊕ Bool)
  | 0, _, _ => none
  | k628 + 1, v626, v627 =>
    sel (decide (v626 < ((((z14.take ((z14.map cF).length)).drop ((IntKind.i64.wrap (v546 + 1)).toNat)).map cF).length : Int)))
     (ix ((z14.take ((z14.map cF).length)).drop ((IntKind.i64.wrap (v546 + 1)).toNat)) v626 (fun y629 =>
       ob1 (ob1 (M_stratagem_mutex_Table_Together (some z15) y597 y629) (fun z636 =>
         ob1 (M_stratagem_mutex_Table_Together (some z15) y629 y597) (fun z637 =>
          sel (!(z636 == z637))
           (some (.inr false))
           (sel (y597.1 == y629.1)
             (ob1 (M_stratagem_mutex_Table_Together (some z15) y597 y629) (fun z638 =>
               sel z638
                (some (.inr false))
                (some (.inl z638))))
             (some (.inl false))))) : Option (Bool ⊕ Bool))
        (osum
        (fun _ => sel (y597.1 != y629.1)
           (ob1 (M_stratagem_mutex_Table_Reached (some z15) y597) (fun z639 =>
             sel z639
              (ob1 (M_stratagem_mutex_Table_Reached (some z15) y629) (fun z640 =>
                sel z640
                 (ob1 (M_stratagem_mutex_Table_Together (some z15) y597 y629) (fun z641 =>
                   sel (!z641)
                    (grd ((v627.length + 1) * 32 ≤ 140737488355328) (M_l33_MutexNogoods_L2 v546 y597 z14 z15 k628 (IntKind.i64.wrap (v626 + 1)) (v627 ++ [([y597, y629], 0)])))
                    (M_l33_MutexNogoods_L2 v546 y597 z14 z15 k628 (IntKind.i64.wrap (v626 + 1)) v627)))
                 (M_l33_MutexNogoods_L2 v546 y597 z14 z15 k628 (IntKind.i64.wrap (v626 + 1)) v627)))
              (M_l33_MutexNogoods_L2 v546 y597 z14 z15 k628 (IntKind.i64.wrap (v626 + 1)) v627)))
           (M_l33_MutexNogoods_L2 v546 y597 z14 z15 k628 (IntKind.i64.wrap (v626 + 1)) v627))
        (fun r634 => some (.inr r634)))))
     (some (.inl v627))
def M_l33_MutexNogoods_L3 (z14 : List Fact) (z15 : GTable) : Nat → Int → (List Nogood) → Option ((List Nogood) ⊕ Bool)
  | 0, _, _ => none
  | k548 + 1, v546, v547 =>
    sel (decide (v546 < ((z14.map cF).length : Int)))
     (ob1 (ix z14 v546 (fun y597 =>
        grd (0 ≤ (IntKind.i64.wrap (v546 + 1))) (grd ((IntKind.i64.wrap (v546 + 1)).toNat ≤ (z14.map cF).length) (M_l33_MutexNogoods_L2 v546 y597 z14 z15 ((((((z14.take ((z14.map cF).length)).drop ((IntKind.i64.wrap (v546 + 1)).toNat)).map cF).length : Int)).toNat + 1) 0 v547))) : Option ((List Nogood) ⊕ Bool))
       (osum
       (fun v594 => M_l33_MutexNogoods_L3 z14 z15 k548 (IntKind.i64.wrap (v546 + 1)) v594)
       (fun r595 => some (.inr r595))))
     (some (.inl v547))
def M_l33_MutexNogoods (g : Nat) (a0 : GTask) : Option (Bool) :=
  ob1 (ob1 (M_l33_fit a0) (fun z7 =>
    sel (!z7)
     (ob1 (M_l33_awake g) (fun z10 =>
       some (.inr z10)))
     (ob1 (M_l33_awake g) (fun z8 =>
       sel (!z8)
        (ob1 (M_l33_awake g) (fun z9 =>
          some (.inr z9)))
        (some (.inl ()))))) : Option (Unit ⊕ Bool))
   (osum
   (fun _ => ob2 (M_mutex_New g a0) (fun z11 z12 =>
      erM z12
       (ob1 (M_r33_Facts a0.Vars) (fun z14 =>
         opM z11
          (none)
          (fun z15 => ob1 (M_l33_MutexNogoods_L1 z14 z15 ((((z14.map cF).length : Int)).toNat + 1) 0 [] : Option ((List Nogood) ⊕ Bool))
            (osum
            (fun v42 => ob1 (M_l33_MutexNogoods_L3 z14 z15 ((((z14.map cF).length : Int)).toNat + 1) 0 v42 : Option ((List Nogood) ⊕ Bool))
               (osum
               (fun v355 => ob1 (M_stratagem_mutex_Table_Nogoods (some z15)) (fun z642 =>
                  grd (v355.length ≤ 140737488355328) (ob1 (M_l33_same z642 v355) (fun z643 =>
                   sel z643
                    (ob1 (M_r30_Proper a0.Vars ({ Bound := (-1), Nogoods := v355 : GCertificate })) (fun z644 =>
                      some (z644 == 0)))
                    (some false)))))
               (fun r356 => some r356)))
            (fun r43 => some r43)))))
       (fun _ => some false)))
   (fun r5 => some r5))
theorem A_l33_MutexNogoods (g : Nat) (a0 : GTask) {r1 : Bool} (h : M_l33_MutexNogoods g a0 = some r1) : ACall cx 4 [.agg [.sl 1 (a0.Vars.map cI), .sl 1 (a0.Init.map cI), .sl 2 (a0.Goal.map cF), .sl 4 (a0.Ops.map cGOp)]] (.c (.bool r1)) := by
  refine aOf Tryz.func4 rfl (by decide) rfl (Nat.le_of_ble_eq_true rfl) ?_; intro _; unfold M_l33_MutexNogoods at h; refine aSR ?_; intro _; refine dr ?_; obtain ⟨o1, h, hK2⟩ := ob1_ok h; refine awp_cut (α := Unit) (fun _ => mkS 137 [(1, .ptr 1 0 0 0)] [(1, ⟨26, 4, true, [[.sl 1 (a0.Vars.map cI), .sl 1 (a0.Init.map cI), .sl 2 (a0.Goal.map cF), .sl 4 (a0.Ops.map cGOp)]]⟩)]) (fun v => o1 = (.inl v)) ?_ ?_
  · refine aSR ?_; intro _; obtain ⟨z7, u3, h⟩ := ob1_ok h; refine cl rfl (A_l33_fit a0 u3) ?_; intro _; refine spf h (fun c4 h => ?_) (fun c4 h => ?_)
    · intro _; obtain ⟨z8, u5, h⟩ := ob1_ok h; refine cl rfl (A_l33_awake g u5) ?_; intro _; refine dr ?_; refine aCd ?_; intro _; refine spl h (fun c6 h => ?_) (fun c6 h => ?_)
      · refine aSR ?_; intro _; obtain ⟨z9, u7, h⟩ := ob1_ok h; refine cl rfl (A_l33_awake g u7) ?_; intro _; refine dr ?_; refine aRt ?_; have j8 := Option.some.inj h; subst j8; replace h := (osum_r hK2); intro _; obtain rfl := inj1 h; exact ca_0
      · refine aSk ?_; refine ⟨(), (Option.some.inj h).symm, ?_⟩; exact ca_0
    · intro _; refine dr ?_; refine aCd ?_; intro _; refine litT ?_; refine aSR ?_; intro _; obtain ⟨z10, u9, h⟩ := ob1_ok h; refine cl rfl (A_l33_awake g u9) ?_; intro _; refine dr ?_; refine aRt ?_; have j10 := Option.some.inj h; subst j10; replace h := (osum_r hK2); intro _; obtain rfl := inj1 h; exact ca_0
  · rintro _ ho; have ho := ho.symm; subst ho; intro _; replace h := (osum_l hK2); refine aSR ?_; intro _; obtain ⟨z11, z12, u11, h⟩ := ob2_ok h; refine cl rfl (A_mutex_New g a0 u11) ?_; intro _; refine dr ?_; refine aSq ?_; refine aSq ?_; rcases z12 with _ | e13
    · replace h := erM_nil h; refine aRg ?_; intro _; refine dr ?_; refine aCd ?_; intro _; refine litF ?_; refine aSk ?_; refine aSR ?_; intro _; refine dr ?_; refine aSR ?_; intro _; obtain ⟨z14, u12, h⟩ := ob1_ok h; refine cl rfl (A_r33_Facts a0.Vars u12) ?_; intro _; refine dr ?_; rcases z11 with _ | z15
      · replace h := opM_none h; cases h
      · replace h := opM_some h; obtain ⟨o13, h, hK14⟩ := ob1_ok h; refine awp_cut (α := List Nogood) (fun v42 => mkS 137 [(1, .ptr 1 0 0 0), (3, .pim [.sl 1 (z15.t.Vars.map cI), .sl 1 (z15.t.Init.map cI), .sl 2 (z15.t.Goal.map cF), .sl 4 (z15.t.Ops.map cGOp), .sl 1 (z15.first.map cI), .sl 1 (z15.reached.map cL_cB)] 0), (5, .own 46 0 0 v42.length), (6, .sl 2 (z14.map cF))] [(1, ⟨26, 4, true, [[.sl 1 (a0.Vars.map cI), .sl 1 (a0.Init.map cI), .sl 2 (a0.Goal.map cF), .sl 4 (a0.Ops.map cGOp)]]⟩), (46, ⟨48, 2, false, v42.map cN⟩)]) (fun v => o13 = (.inl v)) ?_ ?_
        · refine aSR ?_; intro _; refine dr ?_; refine aBk ?_; refine awp_loop (α := Nat × Int × (List Nogood)) (fun x => mkS 137 [(1, .ptr 1 0 0 0), (3, .pim [.sl 1 (z15.t.Vars.map cI), .sl 1 (z15.t.Init.map cI), .sl 2 (z15.t.Goal.map cF), .sl 4 (z15.t.Ops.map cGOp), .sl 1 (z15.first.map cI), .sl 1 (z15.reached.map cL_cB)] 0), (5, .own 46 0 0 x.2.2.length), (6, .sl 2 (z14.map cF)), (31, .sl 2 (z14.map cF)), (32, .c (.int .i64 ((z14.map cF).length : Int))), (33, .c (.int .i64 x.2.1))] [(1, ⟨26, 4, true, [[.sl 1 (a0.Vars.map cI), .sl 1 (a0.Init.map cI), .sl 2 (a0.Goal.map cF), .sl 4 (a0.Ops.map cGOp)]]⟩), (46, ⟨48, 2, false, x.2.2.map cN⟩)]) (fun x => M_l33_MutexNogoods_L1 z14 z15 x.1 x.2.1 x.2.2 = some o13) (fun x => x.1) ((((z14.map cF).length : Int)).toNat + 1, 0, []) h ?_ ?_
          · exact ca_0
          · intro x15 h; intro _; obtain ⟨k63, m16, h⟩ := succ_of (f := fun n => M_l33_MutexNogoods_L1 z14 z15 n x15.2.1 x15.2.2) rfl h; replace h : M_l33_MutexNogoods_L1 z14 z15 (k63 + 1) x15.2.1 x15.2.2 = some o13 := h; rw [M_l33_MutexNogoods_L1] at h; refine aSR ?_; intro _; refine dr ?_; refine aSq ?_; refine aCd ?_; intro _; refine spl h (fun c17 h => ?_) (fun c17 h => ?_)
            · refine aSk ?_; refine aSq ?_; refine aBk ?_; refine aSR ?_; intro _; obtain ⟨y64, w18, q19, h⟩ := ix_ok h; refine Exists.intro (cF y64) (And.intro (map_at' w18) ?_); intro _; refine pr ?_; refine dr ?_; obtain ⟨o20, h, hK21⟩ := ob1_ok h; refine awp_cut (α := List Nogood) (fun v66 => mkS 137 [(1, .ptr 1 0 0 0), (3, .pim [.sl 1 (z15.t.Vars.map cI), .sl 1 (z15.t.Init.map cI), .sl 2 (z15.t.Goal.map cF), .sl 4 (z15.t.Ops.map cGOp), .sl 1 (z15.first.map cI), .sl 1 (z15.reached.map cL_cB)] 0), (5, .own 46 0 0 v66.length), (6, .sl 2 (z14.map cF)), (8, .ptr 8 0 0 0), (31, .sl 2 (z14.map cF)), (32, .c (.int .i64 ((z14.map cF).length : Int))), (33, .c (.int .i64 x15.2.1))] [(1, ⟨26, 4, true, [[.sl 1 (a0.Vars.map cI), .sl 1 (a0.Init.map cI), .sl 2 (a0.Goal.map cF), .sl 4 (a0.Ops.map cGOp)]]⟩), (8, ⟨39, 2, true, [[.c (.int .i64 y64.1), .c (.int .i64 y64.2)]]⟩), (46, ⟨48, 2, false, v66.map cN⟩)]) (fun v => o20 = v) ?_ ?_
              · refine aSR ?_; intro _; obtain ⟨z68, u22, h⟩ := ob1_ok h; refine cl rfl (A_stratagem_mutex_Table_Reached (some z15) y64 u22) ?_; intro _; refine dr ?_; refine aCd ?_; intro _; refine spl h (fun c23 h => ?_) (fun c23 h => ?_)
                · refine aRg ?_; intro _; obtain ⟨q24, h⟩ := grd_ok h; refine pl ?_; refine pl ?_; refine And.intro (by first | with_reducible assumption | (show (x15.2.2.length + 1) * 32 ≤ 140737488355328; with_reducible assumption) | omega | (simp; omega)) ?_; refine pe ?_; refine dr ?_; refine ⟨(x15.2.2 ++ [([y64], 0)]), (Option.some.inj h).symm, ?_⟩; exact ca_0
                · refine aSk ?_; refine ⟨x15.2.2, (Option.some.inj h).symm, ?_⟩; exact ca_0
              · rintro v66 ho; have ho := ho.symm; subst ho; intro _; replace h := hK21; refine aSR ?_; intro _; obtain ⟨z69, u25, h⟩ := ob1_ok h; refine cl rfl (A_stratagem_mutex_Table_Together (some z15) y64 y64 u25) ?_; intro _; obtain ⟨z70, u26, h⟩ := ob1_ok h; refine cl rfl (A_stratagem_mutex_Table_Reached (some z15) y64 u26) ?_; intro _; refine dr ?_; refine aCd ?_; intro _; refine spl h (fun c27 h => ?_) (fun c27 h => ?_)
                · refine aSR ?_; intro _; refine dr ?_; refine aRt ?_; have j28 := Option.some.inj h; subst j28; replace h := (osum_r hK14); intro _; obtain rfl := inj1 h; exact ca_0
                · refine aSk ?_; refine aRg ?_; intro _; refine dr ?_; refine ⟨(k63, (IntKind.i64.wrap (x15.2.1 + 1)), v66), h, ltS m16, ?_⟩; exact ca_0
            · refine aEx ?_; refine ⟨x15.2.2, (Option.some.inj h).symm, ?_⟩; exact ca_0
        · rintro v42 ho; have ho := ho.symm; subst ho; intro _; replace h := (osum_l hK14); obtain ⟨o29, h, hK30⟩ := ob1_ok h; refine awp_cut (α := List Nogood) (fun v355 => mkS 137 [(1, .ptr 1 0 0 0), (3, .pim [.sl 1 (z15.t.Vars.map cI), .sl 1 (z15.t.Init.map cI), .sl 2 (z15.t.Goal.map cF), .sl 4 (z15.t.Ops.map cGOp), .sl 1 (z15.first.map cI), .sl 1 (z15.reached.map cL_cB)] 0), (5, .own 46 0 0 v355.length)] [(1, ⟨26, 4, true, [[.sl 1 (a0.Vars.map cI), .sl 1 (a0.Init.map cI), .sl 2 (a0.Goal.map cF), .sl 4 (a0.Ops.map cGOp)]]⟩), (46, ⟨48, 2, false, v355.map cN⟩)]) (fun v => o29 = (.inl v)) ?_ ?_
          · refine aSR ?_; intro _; refine dr ?_; refine aBk ?_; refine awp_loop (α := Nat × Int × (List Nogood)) (fun x => mkS 137 [(1, .ptr 1 0 0 0), (3, .pim [.sl 1 (z15.t.Vars.map cI), .sl 1 (z15.t.Init.map cI), .sl 2 (z15.t.Goal.map cF), .sl 4 (z15.t.Ops.map cGOp), .sl 1 (z15.first.map cI), .sl 1 (z15.reached.map cL_cB)] 0), (5, .own 46 0 0 x.2.2.length), (6, .sl 2 (z14.map cF)), (56, .sl 2 (z14.map cF)), (57, .c (.int .i64 ((z14.map cF).length : Int))), (58, .c (.int .i64 x.2.1))] [(1, ⟨26, 4, true, [[.sl 1 (a0.Vars.map cI), .sl 1 (a0.Init.map cI), .sl 2 (a0.Goal.map cF), .sl 4 (a0.Ops.map cGOp)]]⟩), (46, ⟨48, 2, false, x.2.2.map cN⟩)]) (fun x => M_l33_MutexNogoods_L3 z14 z15 x.1 x.2.1 x.2.2 = some o29) (fun x => x.1) ((((z14.map cF).length : Int)).toNat + 1, 0, v42) h ?_ ?_
            · exact ca_0
            · intro x31 h; intro _; obtain ⟨k548, m32, h⟩ := succ_of (f := fun n => M_l33_MutexNogoods_L3 z14 z15 n x31.2.1 x31.2.2) rfl h; replace h : M_l33_MutexNogoods_L3 z14 z15 (k548 + 1) x31.2.1 x31.2.2 = some o29 := h; rw [M_l33_MutexNogoods_L3] at h; refine aSR ?_; intro _; refine dr ?_; refine aSq ?_; refine aCd ?_; intro _; refine spl h (fun c33 h => ?_) (fun c33 h => ?_)
              · refine aSk ?_; obtain ⟨o34, h, hK35⟩ := ob1_ok h; refine awp_cut (α := List Nogood) (fun v594 => mkS 137 [(1, .ptr 1 0 0 0), (3, .pim [.sl 1 (z15.t.Vars.map cI), .sl 1 (z15.t.Init.map cI), .sl 2 (z15.t.Goal.map cF), .sl 4 (z15.t.Ops.map cGOp), .sl 1 (z15.first.map cI), .sl 1 (z15.reached.map cL_cB)] 0), (5, .own 46 0 0 v594.length), (6, .sl 2 (z14.map cF)), (56, .sl 2 (z14.map cF)), (57, .c (.int .i64 ((z14.map cF).length : Int))), (58, .c (.int .i64 x31.2.1))] [(1, ⟨26, 4, true, [[.sl 1 (a0.Vars.map cI), .sl 1 (a0.Init.map cI), .sl 2 (a0.Goal.map cF), .sl 4 (a0.Ops.map cGOp)]]⟩), (46, ⟨48, 2, false, v594.map cN⟩)]) (fun v => o34 = (.inl v)) ?_ ?_
                · refine aBk ?_; refine aSR ?_; intro _; obtain ⟨y597, w36, q37, h⟩ := ix_ok h; refine Exists.intro (cF y597) (And.intro (map_at' w36) ?_); intro _; refine pr ?_; refine dr ?_; refine aSR ?_; intro _; obtain ⟨q38, h⟩ := grd_ok h; obtain ⟨q39, h⟩ := grd_ok h; refine pr ?_; refine pr ?_; refine pr ?_; refine dr ?_; refine aBk ?_; refine awp_loop (α := Nat × Int × (List Nogood)) (fun x => mkS 137 [(1, .ptr 1 0 0 0), (3, .pim [.sl 1 (z15.t.Vars.map cI), .sl 1 (z15.t.Init.map cI), .sl 2 (z15.t.Goal.map cF), .sl 4 (z15.t.Ops.map cGOp), .sl 1 (z15.first.map cI), .sl 1 (z15.reached.map cL_cB)] 0), (5, .own 46 0 0 x.2.2.length), (6, .sl 2 (z14.map cF)), (10, .ptr 10 0 0 0), (56, .sl 2 (z14.map cF)), (57, .c (.int .i64 ((z14.map cF).length : Int))), (58, .c (.int .i64 x31.2.1)), (66, .sl 2 (((z14.take ((z14.map cF).length)).drop ((IntKind.i64.wrap (x31.2.1 + 1)).toNat)).map cF)), (67, .c (.int .i64 ((((z14.take ((z14.map cF).length)).drop ((IntKind.i64.wrap (x31.2.1 + 1)).toNat)).map cF).length : Int))), (68, .c (.int .i64 x.2.1))] [(1, ⟨26, 4, true, [[.sl 1 (a0.Vars.map cI), .sl 1 (a0.Init.map cI), .sl 2 (a0.Goal.map cF), .sl 4 (a0.Ops.map cGOp)]]⟩), (10, ⟨39, 2, true, [[.c (.int .i64 y597.1), .c (.int .i64 y597.2)]]⟩), (46, ⟨48, 2, false, x.2.2.map cN⟩)]) (fun x => M_l33_MutexNogoods_L2 x31.2.1 y597 z14 z15 x.1 x.2.1 x.2.2 = some o34) (fun x => x.1) ((((((z14.take ((z14.map cF).length)).drop ((IntKind.i64.wrap (x31.2.1 + 1)).toNat)).map cF).length : Int)).toNat + 1, 0, x31.2.2) h ?_ ?_
                  · exact ca_0
                  · intro x40 h; intro _; obtain ⟨k628, m41, h⟩ := succ_of (f := fun n => M_l33_MutexNogoods_L2 x31.2.1 y597 z14 z15 n x40.2.1 x40.2.2) rfl h; replace h : M_l33_MutexNogoods_L2 x31.2.1 y597 z14 z15 (k628 + 1) x40.2.1 x40.2.2 = some o34 := h; rw [M_l33_MutexNogoods_L2] at h; refine aSR ?_; intro _; refine dr ?_; refine aSq ?_; refine aCd ?_; intro _; refine spl h (fun c42 h => ?_) (fun c42 h => ?_)
                    · refine aSk ?_; refine aSq ?_; refine aBk ?_; refine aSR ?_; intro _; obtain ⟨y629, w43, q44, h⟩ := ix_ok h; refine Exists.intro (cF y629) (And.intro (map_at' w43) ?_); intro _; refine pr ?_; refine dr ?_; obtain ⟨o45, h, hK46⟩ := ob1_ok h; refine awp_cut (α := Bool) (fun v633 => mkS 137 [(1, .ptr 1 0 0 0), (3, .pim [.sl 1 (z15.t.Vars.map cI), .sl 1 (z15.t.Init.map cI), .sl 2 (z15.t.Goal.map cF), .sl 4 (z15.t.Ops.map cGOp), .sl 1 (z15.first.map cI), .sl 1 (z15.reached.map cL_cB)] 0), (5, .own 46 0 0 x40.2.2.length), (6, .sl 2 (z14.map cF)), (10, .ptr 10 0 0 0), (12, .ptr 12 0 0 0), (56, .sl 2 (z14.map cF)), (57, .c (.int .i64 ((z14.map cF).length : Int))), (58, .c (.int .i64 x31.2.1)), (66, .sl 2 (((z14.take ((z14.map cF).length)).drop ((IntKind.i64.wrap (x31.2.1 + 1)).toNat)).map cF)), (67, .c (.int .i64 ((((z14.take ((z14.map cF).length)).drop ((IntKind.i64.wrap (x31.2.1 + 1)).toNat)).map cF).length : Int))), (68, .c (.int .i64 x40.2.1)), (82, .ptr 10 0 0 0), (83, .c (.int .i64 y597.1)), (84, .ptr 12 0 0 0), (85, .c (.int .i64 y629.1)), (86, .c (.bool (y597.1 == y629.1))), (87, .c (.bool (y597.1 == y629.1))), (92, .c (.bool v633))] [(1, ⟨26, 4, true, [[.sl 1 (a0.Vars.map cI), .sl 1 (a0.Init.map cI), .sl 2 (a0.Goal.map cF), .sl 4 (a0.Ops.map cGOp)]]⟩), (10, ⟨39, 2, true, [[.c (.int .i64 y597.1), .c (.int .i64 y597.2)]]⟩), (12, ⟨39, 2, true, [[.c (.int .i64 y629.1), .c (.int .i64 y629.2)]]⟩), (46, ⟨48, 2, false, x40.2.2.map cN⟩)]) (fun v => o45 = (.inl v)) ?_ ?_
                      · refine aSR ?_; intro _; obtain ⟨z636, u47, h⟩ := ob1_ok h; refine cl rfl (A_stratagem_mutex_Table_Together (some z15) y597 y629 u47) ?_; intro _; obtain ⟨z637, u48, h⟩ := ob1_ok h; refine cl rfl (A_stratagem_mutex_Table_Together (some z15) y629 y597 u48) ?_; intro _; refine spf h (fun c49 h => ?_) (fun c49 h => ?_)
                        · intro _; refine spl h (fun c50 h => ?_) (fun c50 h => ?_)
                          · intro _; obtain ⟨z638, u51, h⟩ := ob1_ok h; refine cl rfl (A_stratagem_mutex_Table_Together (some z15) y597 y629 u51) ?_; intro _; refine dr ?_; refine aCd ?_; intro _; refine spl h (fun c52 h => ?_) (fun c52 h => ?_)
                            · refine aSR ?_; intro _; refine dr ?_; refine aRt ?_; have j53 := Option.some.inj h; subst j53; replace h := (osum_r hK46); have j54 := Option.some.inj h; subst j54; replace h := (osum_r hK35); have j55 := Option.some.inj h; subst j55; replace h := (osum_r hK30); intro _; obtain rfl := inj1 h; exact ca_0
                            · refine aSk ?_; refine ⟨z638, (Option.some.inj h).symm, ?_⟩; exact ca_0
                          · intro _; refine dr ?_; refine aCd ?_; intro _; refine litF ?_; refine aSk ?_; refine ⟨false, (Option.some.inj h).symm, ?_⟩; exact ca_0
                        · intro _; refine dr ?_; refine aCd ?_; intro _; refine litT ?_; refine aSR ?_; intro _; refine dr ?_; refine aRt ?_; have j56 := Option.some.inj h; subst j56; replace h := (osum_r hK46); have j57 := Option.some.inj h; subst j57; replace h := (osum_r hK35); have j58 := Option.some.inj h; subst j58; replace h := (osum_r hK30); intro _; obtain rfl := inj1 h; exact ca_0
                      · rintro v633 ho; have ho := ho.symm; subst ho; intro _; replace h := (osum_l hK46); refine aSR ?_; intro _; refine spl h (fun c59 h => ?_) (fun c59 h => ?_)
                        · intro _; obtain ⟨z639, u60, h⟩ := ob1_ok h; refine cl rfl (A_stratagem_mutex_Table_Reached (some z15) y597 u60) ?_; intro _; refine spl h (fun c61 h => ?_) (fun c61 h => ?_)
                          · intro _; obtain ⟨z640, u62, h⟩ := ob1_ok h; refine cl rfl (A_stratagem_mutex_Table_Reached (some z15) y629 u62) ?_; intro _; refine spl h (fun c63 h => ?_) (fun c63 h => ?_)
                            · intro _; obtain ⟨z641, u64, h⟩ := ob1_ok h; refine cl rfl (A_stratagem_mutex_Table_Together (some z15) y597 y629 u64) ?_; intro _; refine dr ?_; refine aCd ?_; intro _; refine spl h (fun c65 h => ?_) (fun c65 h => ?_)
                              · refine aRg ?_; intro _; obtain ⟨q66, h⟩ := grd_ok h; refine pl ?_; refine pl ?_; refine And.intro (by first | with_reducible assumption | (show (x40.2.2.length + 1) * 32 ≤ 140737488355328; with_reducible assumption) | omega | (simp; omega)) ?_; refine pe ?_; refine dr ?_; refine aRg ?_; intro _; refine dr ?_; refine ⟨(k628, (IntKind.i64.wrap (x40.2.1 + 1)), (x40.2.2 ++ [([y597, y629], 0)])), h, ltS m41, ?_⟩; exact ca_0
                              · refine aSk ?_; refine aRg ?_; intro _; refine dr ?_; refine ⟨(k628, (IntKind.i64.wrap (x40.2.1 + 1)), x40.2.2), h, ltS m41, ?_⟩; exact ca_0
                            · intro _; refine dr ?_; refine aCd ?_; intro _; refine litF ?_; refine aSk ?_; refine aRg ?_; intro _; refine dr ?_; refine ⟨(k628, (IntKind.i64.wrap (x40.2.1 + 1)), x40.2.2), h, ltS m41, ?_⟩; exact ca_0
                          · intro _; refine dr ?_; refine aCd ?_; intro _; refine litF ?_; refine aSk ?_; refine aRg ?_; intro _; refine dr ?_; refine ⟨(k628, (IntKind.i64.wrap (x40.2.1 + 1)), x40.2.2), h, ltS m41, ?_⟩; exact ca_0
                        · intro _; refine dr ?_; refine aCd ?_; intro _; refine litF ?_; refine aSk ?_; refine aRg ?_; intro _; refine dr ?_; refine ⟨(k628, (IntKind.i64.wrap (x40.2.1 + 1)), x40.2.2), h, ltS m41, ?_⟩; exact ca_0
                    · refine aEx ?_; refine ⟨x40.2.2, (Option.some.inj h).symm, ?_⟩; exact ca_0
                · rintro v594 ho; have ho := ho.symm; subst ho; intro _; replace h := (osum_l hK35); refine aRg ?_; intro _; refine dr ?_; refine ⟨(k548, (IntKind.i64.wrap (x31.2.1 + 1)), v594), h, ltS m32, ?_⟩; exact ca_0
              · refine aEx ?_; refine ⟨x31.2.2, (Option.some.inj h).symm, ?_⟩; exact ca_0
          · rintro v355 ho; have ho := ho.symm; subst ho; intro _; replace h := (osum_l hK30); refine aSR ?_; intro _; obtain ⟨z642, u67, h⟩ := ob1_ok h; refine cl rfl (A_stratagem_mutex_Table_Nogoods (some z15) u67) ?_; intro _; obtain ⟨q68, h⟩ := grd_ok h; obtain ⟨z643, u69, h⟩ := ob1_ok h; refine clb [46] rfl rfl (A_l33_same z642 v355 u69) ?_; intro _; refine spl h (fun c70 h => ?_) (fun c70 h => ?_)
            · intro _; obtain ⟨z644, u71, h⟩ := ob1_ok h; refine clb [46] rfl rfl (A_r30_Proper a0.Vars ({ Bound := (-1), Nogoods := v355 : GCertificate }) u71) ?_; intro _; refine dr ?_; refine aRt ?_; intro _; obtain rfl := inj1 h; exact ca_0
            · intro _; refine dr ?_; refine aRt ?_; intro _; obtain rfl := inj1 h; exact ca_0
    · replace h := erM_no h; refine aRg ?_; intro _; refine dr ?_; refine aCd ?_; intro _; refine litT ?_; refine aSR ?_; intro _; refine dr ?_; refine aRt ?_; intro _; obtain rfl := inj1 h; exact ca_0
end Go.Proofs.YtinnphmnhmdcgaaGreat.Am
namespace Go.Proofs.YtinnphmnhmdcgaaGreat.Am
def M_l30_Same_L1_B (a0 : GCertificate) (a1 : GCertificate) (_y16 : Nogood) (v14 : Int) : Unit → (Unit → Option (Bool)) → Option (Bool) := fun _ rc => ixv _y16 (fun y16 =>
       ix a1.Nogoods v14 (fun y17 =>
        sel (y16.2 != y17.2)
         (some false)
         (ix a0.Nogoods v14 (fun y18 =>
           ix a1.Nogoods v14 (fun y19 =>
            ob1 (M_b_Facts y18.1 y19.1) (fun z20 =>
             sel (!z20)
              (some false)
              (rc ())))))))
def M_l30_Same_L1_E (_ : GCertificate) (_ : GCertificate) : Unit → Option (Bool) := fun _ => some true
theorem M_l30_Same_L1_eq (a0 : GCertificate) (a1 : GCertificate)  (hl : a0.Nogoods.length < 9223372036854775807) : M_l30_Same_L1 a0 a1 (((a0.Nogoods.map cN).length : Int).toNat + 1) 0 = Rg (M_l30_Same_L1_B a0 a1) (M_l30_Same_L1_E a0 a1) a0.Nogoods 0 () := rg_e1 (L := fun k i _ => M_l30_Same_L1 a0 a1 k i) hl (fun _ _ _ => rfl) ()
def M_r06_Is_L1_B (a0 : List Fact) (_y7 : Fact) (v5 : Int) : Unit → (Unit → Option (Bool)) → Option (Bool) := fun _ rc => ixv _y7 (fun y7 =>
       sel (decide (y7.1 < 0))
        (some false)
        (sel (decide (y7.2 < 0))
          (some false)
          (sel (decide (v5 > 0))
            (ix a0 (IntKind.i64.wrap (v5 - 1)) (fun y8 =>
              sel (decide (y8.1 ≥ y7.1))
               (some false)
               (rc ())))
            (rc ()))))
def M_r06_Is_L1_E (_ : List Fact) : Unit → Option (Bool) := fun _ => some true
theorem M_r06_Is_L1_eq (a0 : List Fact)  (hl : a0.length < 9223372036854775807) : M_r06_Is_L1 a0 (((a0.map cF).length : Int).toNat + 1) 0 = Rg (M_r06_Is_L1_B a0) (M_r06_Is_L1_E a0) a0 0 () := rg_e1 (L := fun k i _ => M_r06_Is_L1 a0 k i) hl (fun _ _ _ => rfl) ()
def M_r30_Check_L1_B (_ : Nogood) (_y118 : Fact) (_ : Int) : Unit → (Unit → Option (Unit ⊕ Int)) → Option (Unit ⊕ Int) := fun _ rc => ixv _y118 (fun y118 =>
       sel (decide (y118.1 ≥ 64))
        (some (.inr 2))
        (sel (decide (y118.2 ≥ 64))
          (some (.inr 2))
          (rc ())))
def M_r30_Check_L1_E (_ : Nogood) : Unit → Option (Unit ⊕ Int) := fun _ => some (.inl ())
theorem M_r30_Check_L1_eq (y111 : Nogood)  (hl : y111.1.length < 9223372036854775807) : M_r30_Check_L1 y111 (((y111.1.map cF).length : Int).toNat + 1) 0 = Rg (M_r30_Check_L1_B y111) (M_r30_Check_L1_E y111) y111.1 0 () := rg_e1 (L := fun k i _ => M_r30_Check_L1 y111 k i) hl (fun _ _ _ => rfl) ()
def M_r30_Check_L2_B (_ : GCertificate) (_y111 : Nogood) (_ : Int) : Unit → (Unit → Option (Unit ⊕ Int)) → Option (Unit ⊕ Int) := fun _ rc => ob1 (ixv _y111 (fun y111 =>
        ob1 (M_r06_Is y111.1) (fun z112 =>
         sel (!z112)
          (some (.inr 2))
          (M_r30_Check_L1 y111 ((((y111.1.map cF).length : Int)).toNat + 1) 0))) : Option (Unit ⊕ Int))
       (osum
       (fun _ => rc ())
       (fun r109 => some (.inr r109)))
def M_r30_Check_L2_E (_ : GCertificate) : Unit → Option (Unit ⊕ Int) := fun _ => some (.inl ())
theorem M_r30_Check_L2_eq (a0 : GCertificate)  (hl : a0.Nogoods.length < 9223372036854775807) : M_r30_Check_L2 a0 (((a0.Nogoods.map cN).length : Int).toNat + 1) 0 = Rg (M_r30_Check_L2_B a0) (M_r30_Check_L2_E a0) a0.Nogoods 0 () := rg_e2 (L := fun k i _ => M_r30_Check_L2 a0 k i) hl (fun k n p y hy h1 h2 => by first | (simp only [M_r30_Check_L2, M_r30_Check_L2_B, List.length_map, decide_lt h1, sel, ix_at hy, ixv, h2]; done) | (simp only [List.length_map] at h1 hy; (simp only [M_r30_Check_L2, M_r30_Check_L2_B, List.length_map, decide_lt h1, sel, ix_at hy, ixv, h2]; done))) (fun k p => by simp only [M_r30_Check_L2, M_r30_Check_L2_E, List.length_map, decide_ge, sel]) ()
def M_r30_Check_L3_B (a0 : GCertificate) (_y124 : Nogood) (_ : Int) : Unit → (Unit → Option (Int)) → Option (Int) := fun _ rc => ixv _y124 (fun y124 =>
       sel (decide (y124.2 < 0))
        (some 1)
        (sel (decide (a0.Bound ≥ 0))
          (sel (decide (y124.2 ≥ a0.Bound))
            (some 1)
            (sel (decide (a0.Bound < 0))
              (sel (y124.2 != 0)
                (some 1)
                (rc ()))
              (rc ())))
          (sel (decide (a0.Bound < 0))
            (sel (y124.2 != 0)
              (some 1)
              (rc ()))
            (rc ()))))
def M_r30_Check_L3_E (_ : GCertificate) : Unit → Option (Int) := fun _ => some 0
theorem M_r30_Check_L3_eq (a0 : GCertificate)  (hl : a0.Nogoods.length < 9223372036854775807) : M_r30_Check_L3 a0 (((a0.Nogoods.map cN).length : Int).toNat + 1) 0 = Rg (M_r30_Check_L3_B a0) (M_r30_Check_L3_E a0) a0.Nogoods 0 () := rg_e1 (L := fun k i _ => M_r30_Check_L3 a0 k i) hl (fun _ _ _ => rfl) ()
def M_r30_Proper_L1_B (a0 : List Int) (_ : GCertificate) (_y9 : Nogood) (_ : Int) : Unit → (Unit → Option (Int)) → Option (Int) := fun _ rc => ixv _y9 (fun y9 =>
       ob1 (M_b_Proper a0 y9.1) (fun z10 =>
        sel (!z10)
         (some 2)
         (rc ())))
def M_r30_Proper_L1_E (_ : List Int) (_ : GCertificate) : Unit → Option (Int) := fun _ => some 0
theorem M_r30_Proper_L1_eq (a0 : List Int) (a1 : GCertificate)  (hl : a1.Nogoods.length < 9223372036854775807) : M_r30_Proper_L1 a0 a1 (((a1.Nogoods.map cN).length : Int).toNat + 1) 0 = Rg (M_r30_Proper_L1_B a0 a1) (M_r30_Proper_L1_E a0 a1) a1.Nogoods 0 () := rg_e1 (L := fun k i _ => M_r30_Proper_L1 a0 a1 k i) hl (fun _ _ _ => rfl) ()
def M_l33_MutexNogoods_L1_B (_ : List Fact) (z15 : GTable) (_y64 : Fact) (_ : Int) : ((List Nogood)) → (((List Nogood)) → Option ((List Nogood) ⊕ Bool)) → Option ((List Nogood) ⊕ Bool) := fun v62 rc => ixv _y64 (fun y64 =>
       ob1 (ob1 (M_stratagem_mutex_Table_Reached (some z15) y64) (fun z68 =>
         sel (!z68)
          (grd ((v62.length + 1) * 32 ≤ 140737488355328) (some (v62 ++ [([y64], 0)])))
          (some v62)) : Option (List Nogood))
        (fun v66 => ob1 (M_stratagem_mutex_Table_Together (some z15) y64 y64) (fun z69 =>
           ob1 (M_stratagem_mutex_Table_Reached (some z15) y64) (fun z70 =>
            sel (!(z69 == z70))
             (some (.inr false))
             (rc (v66))))))
def M_l33_MutexNogoods_L1_E (_ : List Fact) (_ : GTable) : ((List Nogood)) → Option ((List Nogood) ⊕ Bool) := fun v62 => some (.inl v62)
theorem M_l33_MutexNogoods_L1_eq (z14 : List Fact) (z15 : GTable) (v62 : List Nogood) (hl : z14.length < 9223372036854775807) : M_l33_MutexNogoods_L1 z14 z15 (((z14.map cF).length : Int).toNat + 1) 0 v62 = Rg (M_l33_MutexNogoods_L1_B z14 z15) (M_l33_MutexNogoods_L1_E z14 z15) z14 0 v62 := rg_e1 (L := fun k i v62 => M_l33_MutexNogoods_L1 z14 z15 k i v62) hl (fun _ _ _ => rfl) v62
def M_l33_MutexNogoods_L2_B (_ : Int) (y597 : Fact) (_ : List Fact) (z15 : GTable) (_y629 : Fact) (_ : Int) : ((List Nogood)) → (((List Nogood)) → Option ((List Nogood) ⊕ Bool)) → Option ((List Nogood) ⊕ Bool) := fun v627 rc => ixv _y629 (fun y629 =>
       ob1 (ob1 (M_stratagem_mutex_Table_Together (some z15) y597 y629) (fun z636 =>
         ob1 (M_stratagem_mutex_Table_Together (some z15) y629 y597) (fun z637 =>
          sel (!(z636 == z637))
           (some (.inr false))
           (sel (y597.1 == y629.1)
             (ob1 (M_stratagem_mutex_Table_Together (some z15) y597 y629) (fun z638 =>
               sel z638
                (some (.inr false))
                (some (.inl z638))))
             (some (.inl false))))) : Option (Bool ⊕ Bool))
        (osum
        (fun _ => sel (y597.1 != y629.1)
           (ob1 (M_stratagem_mutex_Table_Reached (some z15) y597) (fun z639 =>
             sel z639
              (ob1 (M_stratagem_mutex_Table_Reached (some z15) y629) (fun z640 =>
                sel z640
                 (ob1 (M_stratagem_mutex_Table_Together (some z15) y597 y629) (fun z641 =>
                   sel (!z641)
                    (grd ((v627.length + 1) * 32 ≤ 140737488355328) (rc ((v627 ++ [([y597, y629], 0)]))))
                    (rc (v627))))
                 (rc (v627))))
              (rc (v627))))
           (rc (v627)))
        (fun r634 => some (.inr r634))))
def M_l33_MutexNogoods_L2_E (_ : Int) (_ : Fact) (_ : List Fact) (_ : GTable) : ((List Nogood)) → Option ((List Nogood) ⊕ Bool) := fun v627 => some (.inl v627)
theorem M_l33_MutexNogoods_L2_eq (v546 : Int) (y597 : Fact) (z14 : List Fact) (z15 : GTable) (v627 : List Nogood) (hl : ((z14.take ((z14.map cF).length)).drop ((IntKind.i64.wrap (v546 + 1)).toNat)).length < 9223372036854775807) : M_l33_MutexNogoods_L2 v546 y597 z14 z15 (((((z14.take ((z14.map cF).length)).drop ((IntKind.i64.wrap (v546 + 1)).toNat)).map cF).length : Int).toNat + 1) 0 v627 = Rg (M_l33_MutexNogoods_L2_B v546 y597 z14 z15) (M_l33_MutexNogoods_L2_E v546 y597 z14 z15) ((z14.take ((z14.map cF).length)).drop ((IntKind.i64.wrap (v546 + 1)).toNat)) 0 v627 := rg_e1 (L := fun k i v627 => M_l33_MutexNogoods_L2 v546 y597 z14 z15 k i v627) hl (fun _ _ _ => rfl) v627
def M_l33_MutexNogoods_L3_B (z14 : List Fact) (z15 : GTable) (_y597 : Fact) (v546 : Int) : ((List Nogood)) → (((List Nogood)) → Option ((List Nogood) ⊕ Bool)) → Option ((List Nogood) ⊕ Bool) := fun v547 rc => ob1 (ixv _y597 (fun y597 =>
        grd (0 ≤ (IntKind.i64.wrap (v546 + 1))) (grd ((IntKind.i64.wrap (v546 + 1)).toNat ≤ (z14.map cF).length) (M_l33_MutexNogoods_L2 v546 y597 z14 z15 ((((((z14.take ((z14.map cF).length)).drop ((IntKind.i64.wrap (v546 + 1)).toNat)).map cF).length : Int)).toNat + 1) 0 v547))) : Option ((List Nogood) ⊕ Bool))
       (osum
       (fun v594 => rc (v594))
       (fun r595 => some (.inr r595)))
def M_l33_MutexNogoods_L3_E (_ : List Fact) (_ : GTable) : ((List Nogood)) → Option ((List Nogood) ⊕ Bool) := fun v547 => some (.inl v547)
theorem M_l33_MutexNogoods_L3_eq (z14 : List Fact) (z15 : GTable) (v547 : List Nogood) (hl : z14.length < 9223372036854775807) : M_l33_MutexNogoods_L3 z14 z15 (((z14.map cF).length : Int).toNat + 1) 0 v547 = Rg (M_l33_MutexNogoods_L3_B z14 z15) (M_l33_MutexNogoods_L3_E z14 z15) z14 0 v547 := rg_e2 (L := fun k i v547 => M_l33_MutexNogoods_L3 z14 z15 k i v547) hl (fun k n p y hy h1 h2 => by first | (simp only [M_l33_MutexNogoods_L3, M_l33_MutexNogoods_L3_B, List.length_map, decide_lt h1, sel, ix_at hy, ixv, h2]; done) | (simp only [List.length_map] at h1 hy; (simp only [M_l33_MutexNogoods_L3, M_l33_MutexNogoods_L3_B, List.length_map, decide_lt h1, sel, ix_at hy, ixv, h2]; done))) (fun k p => by simp only [M_l33_MutexNogoods_L3, M_l33_MutexNogoods_L3_E, List.length_map, decide_ge, sel]) v547
end Go.Proofs.YtinnphmnhmdcgaaGreat.Am
namespace Go.Proofs.YtinnphmnhmdcgaaGreat.Am
open Go.RowKit
theorem is_loop (l : List Fact) (hs : Sh l) : ∀ (r : List Fact) (n : Nat) (last : Int), l.drop n = r → n ≤ l.length → -1 ≤ last → (n = 0 → last = -1) → (∀ m, n = m + 1 → ∃ x, l[m]? = some x ∧ x.1 = last) → Rg (M_r06_Is_L1_B l) (M_r06_Is_L1_E l) r n () = some (vF last r)
  | [], _, _, _, _, _, _, _ => rfl
  | y :: r, n, last, hd, hn, hl, h0, hp => by
    rw [Rg, vF]
    obtain ⟨hy, hd', hlt⟩ := drop_cons hd
    have hih : 0 ≤ y.1 → Rg (M_r06_Is_L1_B l) (M_r06_Is_L1_E l) r ((n : Int) + 1) () = some (vF y.1 r) := fun h => is_loop l hs r (n + 1) y.1 hd' hlt (by omega) (by omega) (fun m hm => ⟨y, by rw [show m = n by omega]; exact hy, rfl⟩)
    simp only [M_r06_Is_L1_B, ixv, sel_dec]
    by_cases h1 : y.1 < 0
    · rw [if_pos h1, decide_eq_false (by omega)]; rfl
    · rw [if_neg h1]
      by_cases h3 : y.2 < 0
      · rw [if_pos h3, decide_eq_false (by omega)]; rfl
      · rw [if_neg h3]
        cases n with
        | zero =>
          have := h0 rfl
          rw [if_neg (by omega), decide_eq_true (by omega)]
          exact hih (by omega)
        | succ m =>
          obtain ⟨x, hx, hxl⟩ := hp m rfl
          rw [if_pos (by omega), w64 (by omega) (by have := hs; unfold Sh at this; omega), show (((m + 1 : Nat) : Int) - 1) = (m : Int) by omega, ix_at hx]
          by_cases h5 : x.1 ≥ y.1
          · rw [if_pos h5, decide_eq_false (by omega)]; rfl
          · rw [if_neg h5, decide_eq_true (by omega)]
            exact hih (by omega)
theorem is06_eq (l : List Fact) (hl : Sh l) : M_r06_Is l = some (vF (-1) l) := by
  rw [M_r06_Is, M_r06_Is_L1_eq _ hl.lt]
  exact is_loop l hl l 0 (-1) rfl (Nat.zero_le _) (by omega) (fun _ => rfl) (fun m hm => by omega)
theorem ref_cert (c : GCertificate) (hc : ShC c) : M_r30_Check c = some (erN (certF c)) := by
  rw [M_r30_Check, certF, sel_dec, sel_dec]
  by_cases h1 : c.Bound < -1
  · rw [if_pos h1, if_pos (Or.inl h1)]; rfl
  · rw [if_neg h1]
    by_cases h2 : c.Bound > 1099511627776
    · rw [if_pos h2, if_pos (Or.inr h2)]; rfl
    · rw [if_neg h2, if_neg (by omega), ob1_some, osum_inl, sel_dec, List.length_map]
      by_cases h3 : c.Nogoods.length > 4096
      · rw [if_pos (by omega), if_pos h3]; rfl
      · have e2 := M_r30_Check_L2_eq c (by omega)
        have e3 := M_r30_Check_L3_eq c (by omega)
        rw [List.length_map] at e2 e3
        rw [if_neg (by omega), if_neg h3, e2, rg_all (p := fun n : Nogood => frmF n.1) (c := some (.inr 2))]
        · cases ha : c.Nogoods.all fun n => frmF n.1 with
          | false => rw [if_neg (by decide), ob1_some, osum_inr, if_neg (by decide)]; rfl
          | true =>
            rw [if_pos rfl, if_pos rfl, M_r30_Check_L2_E, ob1_some, osum_inl, e3, rg_all (p := distF c.Bound) (c := some 1), M_r30_Check_L3_E]
            · split <;> rfl
            · intro n _ i rc
              rw [M_r30_Check_L3_B, ixv, distF]
              simp only [sel_dec]
              by_cases q1 : n.2 < 0
              · rw [if_pos q1, decide_eq_false (by omega)]; rfl
              · rw [if_neg q1]
                by_cases q2 : c.Bound ≥ 0
                · rw [if_pos q2]
                  by_cases q3 : n.2 ≥ c.Bound
                  · rw [if_pos q3, decide_eq_false (by omega)]; rfl
                  · rw [if_neg q3, if_neg (by omega), decide_eq_true (by omega)]; rfl
                · rw [if_neg q2, if_pos (by omega)]
                  by_cases q4 : n.2 = 0
                  · rw [show (n.2 != 0) = false from by simp [q4], sel_ff, decide_eq_true (by omega)]; rfl
                  · rw [show (n.2 != 0) = true from by simp [q4], sel_tt, decide_eq_false (by omega)]; rfl
        · intro n hn i rc
          have e1 := M_r30_Check_L1_eq n (hc.each n hn).lt
          rw [M_r30_Check_L2_B, ixv, is06_eq n.1 (hc.each n hn), ob1_some, frmF]
          cases vF (-1) n.1 with
          | false => rfl
          | true =>
            rw [Bool.not_true, sel_ff, e1, rg_all (p := fun x : Fact => decide (x.1 < 64 ∧ x.2 < 64)) (c := some (.inr 2)), M_r30_Check_L1_E, Bool.true_and, limF]
            · cases n.1.all fun x => decide (x.1 < 64 ∧ x.2 < 64) <;> rfl
            · intro x _ i rc
              rw [M_r30_Check_L1_B, ixv, sel_dec, sel_dec]
              by_cases h1 : x.1 ≥ 64
              · rw [if_pos h1, decide_eq_false (by omega)]; rfl
              · rw [if_neg h1]
                by_cases h2 : x.2 ≥ 64
                · rw [if_pos h2, decide_eq_false (by omega)]; rfl
                · rw [if_neg h2, decide_eq_true (by omega)]; rfl
theorem certF_code {c : GCertificate} {e : Int} (h : certF c = .no e) : e ≠ 0 := by
  unfold certF at h
  split at h
  · injection h with h; omega
  · split at h
    · injection h with h; omega
    · split at h
      · split at h
        · cases h
        · injection h with h; omega
      · injection h with h; omega
theorem ref_proper (vars : List Int) (c : GCertificate) (hc : ShC c) : M_r30_Proper vars c = some (erN (properF vars c)) := by
  have e1 := M_r30_Proper_L1_eq vars c hc.list.lt
  rw [M_r30_Proper, ref_cert c hc, ob1_some, properF, e1]
  cases he : certF c with
  | no e =>
    have := certF_code he
    rw [show (erN (Er.no e) != 0) = true from by simp [erN, this]]; rfl
  | nil =>
    show sel false _ (Rg _ _ _ _ _) = _
    rw [sel_ff, rg_all (p := fun n : Nogood => propF vars (-1) n.1) (c := some 2), M_r30_Proper_L1_E]
    · simp only; split <;> rfl
    · intro n hn i rc
      rw [M_r30_Proper_L1_B, ixv, proper_eq vars n.1 (hc.each n hn), ob1_some]
      cases propF vars (-1) n.1 <;> rfl
end Go.Proofs.YtinnphmnhmdcgaaGreat.Am
namespace Go.Proofs.YtinnphmnhmdcgaaGreat.Am
open Go.RowKit
theorem bfacts_loop (a b : List Fact) : ∀ (r s : List Fact) (n : Nat), a.drop n = r → b.drop n = s → r.length = s.length → Rg (M_b_Facts_L1_B a b) (M_b_Facts_L1_E a b) r n () = some (decide (r = s))
  | [], [], n, _, _, _ => by rw [Rg, M_b_Facts_L1_E, decide_eq_true rfl]
  | [], _ :: _, n, _, _, h => by cases h
  | _ :: _, [], n, _, _, h => by cases h
  | x :: r, y :: s, n, h1, h2, hl => by
    obtain ⟨hy, hd, -⟩ := drop_cons h2
    have ih := bfacts_loop a b r s (n + 1) (drop_cons h1).2.1 hd (by simpa using hl)
    rw [Rg, M_b_Facts_L1_B, ixv, ix_at hy, fact_beq]
    by_cases e : x = y
    · rw [decide_eq_true e, Bool.not_true, sel_ff]
      refine Eq.trans ih ?_
      subst e; simp
    · rw [decide_eq_false e, Bool.not_false, sel_tt, decide_eq_false]
      intro h; exact e (List.cons.inj h).1
theorem bfacts_eq (a b : List Fact) (ha : Sh a) : M_b_Facts a b = some (decide (a = b)) := by
  rw [M_b_Facts, List.length_map, List.length_map, bne_len]
  by_cases h : a.length = b.length
  · rw [decide_eq_false (by simp [h]), sel_ff]
    have e := M_b_Facts_L1_eq a b ha.lt
    rw [List.length_map] at e
    rw [e]
    exact bfacts_loop a b a b 0 rfl rfl h
  · rw [decide_eq_true h, sel_tt, decide_eq_false]
    rintro rfl; exact h rfl
end Go.Proofs.YtinnphmnhmdcgaaGreat.Am
namespace Go.Proofs.YtinnphmnhmdcgaaGreat.Am
open Go.RowKit
theorem f33_1 (v : Int) (y : Int) : ∀ (m : Nat) (i : Int) (out : List Fact), out.length + m ≤ 1000000 → Rn (M_r33_Facts_L1_B v y) (M_r33_Facts_L1_E v y) m i out = some (out ++ rowG v m i)
  | 0, i, out, _ => by simp [Rn, M_r33_Facts_L1_E, rowG]
  | m + 1, i, out, h => by
    rw [Rn, M_r33_Facts_L1_B, grd_t (by omega), f33_1 v y m (i + 1) _ (by simp; omega)]
    simp [rowG]
theorem f33_2 (vars : List Int) : ∀ (r : List Int) (i : Int) (out : List Fact), (∀ k ∈ r, 1 ≤ k) → (out.length : Int) + sumI r ≤ 1000000 → Rg (M_r33_Facts_L2_B vars) (M_r33_Facts_L2_E vars) r i out = some (out ++ factsG i r)
  | [], i, out, _, h => by
    simp only [sumI] at h
    rw [Rg, M_r33_Facts_L2_E, grd_t (by omega), factsG, List.append_nil]
  | k :: r, i, out, hk, h => by
    have h1 := hk k (by simp)
    have h2 := sumI_nn (r := r) (fun k hk' => hk k (List.mem_cons_of_mem _ hk'))
    simp only [sumI] at h
    have e := M_r33_Facts_L1_eq i k out (m := k.toNat) (by omega) (by omega)
    rw [Rg, M_r33_Facts_L2_B, ixv, e, f33_1 i k k.toNat 0 out (by omega), ob1_some, f33_2 vars r (i + 1) _ (fun k hk' => hk k (List.mem_cons_of_mem _ hk')) (by simp [rowG_len]; omega), factsG, List.append_assoc]
theorem facts33_eq {t : GTask} (hz : Sz t) : M_r33_Facts t.Vars = some (allL t.Vars) := by
  have := hz.small
  have := hz.vlen
  unfold M_r33_Facts
  rw [M_r33_Facts_L2_eq t.Vars [] (by omega), f33_2 t.Vars _ 0 [] hz.pos (by simp; omega)]
  rfl
theorem same_loop (c : GCertificate) (hs : ∀ n ∈ c.Nogoods, Sh n.1) : ∀ (r : List Nogood) (n : Nat), c.Nogoods.drop n = r → Rg (M_l30_Same_L1_B c c) (M_l30_Same_L1_E c c) r n () = some true
  | [], n, _ => rfl
  | x :: r, n, hd => by
    obtain ⟨h1, h2, h3⟩ := drop_cons hd
    rw [Rg, M_l30_Same_L1_B]
    simp only [ixv, ix_at h1]
    rw [show (x.2 != x.2) = false from by simp, sel_ff, bfacts_eq x.1 x.1 (hs x (List.mem_of_getElem? h1)), ob1_some, decide_eq_true rfl, Bool.not_true, sel_ff]
    exact same_loop c hs r (n + 1) h2
theorem same_self (l : List Nogood) (hl : Sh l) (hs : ∀ n ∈ l, Sh n.1) : M_l33_same l l = some true := by
  have e := M_l30_Same_L1_eq { Bound := 0, Nogoods := l } { Bound := 0, Nogoods := l } hl.lt
  have h1 : M_l30_Same { Bound := 0, Nogoods := l } { Bound := 0, Nogoods := l } = some true := by
    rw [M_l30_Same]
    rw [show ((0 : Int) != 0) = false from rfl, sel_ff, show (((l.map cN).length : Int) != ((l.map cN).length : Int)) = false from by simp, sel_ff, ob1_some, osum_inl, e]
    exact same_loop _ hs l 0 rfl
  rw [M_l33_same, h1, ob1_some]
def ngO (p : List Fact) : Nogood := (p, (0 : Int))
section
variable {t : GTask} (hz : Sz t) {R : List (List Bool)} (hR : RkR t R) (hS : SyR t R)
include hz hR
omit hz hR in
theorem rea_is {a : Fact} (ha : InV t.Vars a) : reaF t R a = isF t R a a := by rw [reaF, inV_iff.2 ha, Bool.true_and]
omit hz hR in
theorem tog_self (a : Fact) : togF t R a a = reaF t R a := by rw [togF, decide_eq_true rfl, Bool.true_or, Bool.and_true, Bool.and_self]
theorem nog1 (l : List Fact) : ∀ (r : List Fact) (i : Int) (v : List Nogood), (∀ f ∈ r, InV t.Vars f) → v.length + r.length ≤ 100000 → Rg (M_l33_MutexNogoods_L1_B l (tbl t R)) (M_l33_MutexNogoods_L1_E l (tbl t R)) r i v = some (.inl (v ++ (oneF t R r).map ngO))
  | [], i, v, _, _ => by rw [Rg, M_l33_MutexNogoods_L1_E]; simp [oneF]
  | a :: r, i, v, hr, hl => by
    rw [List.length_cons] at hl
    have ha := hr a (List.mem_cons_self ..)
    have ih := fun v' hv => nog1 l r (i + 1) v' (fun f hf => hr f (List.mem_cons_of_mem _ hf)) hv
    rw [Rg, M_l33_MutexNogoods_L1_B, ixv, reached_eq hz hR, ob1_some, rea_is ha]
    cases hb : isF t R a a with
    | true =>
      rw [Bool.not_true, sel_ff, ob1_some, together_eq hz hR, ob1_some, ob1_some, tog_self, rea_is ha, hb]
      show sel false _ _ = _
      rw [sel_ff, ih v (by omega)]
      simp [oneF, hb]
    | false =>
      rw [Bool.not_false, sel_tt, grd_t (by omega), ob1_some, together_eq hz hR, ob1_some, ob1_some, tog_self, rea_is ha, hb]
      show sel false _ _ = _
      rw [sel_ff, ih _ (by rw [List.length_append, List.length_singleton]; omega)]
      simp [oneF, hb, ngO]
include hS in
theorem nog2 (n : Int) {a : Fact} (ha : InV t.Vars a) (l : List Fact) : ∀ (r : List Fact) (i : Int) (v : List Nogood), (∀ f ∈ r, InV t.Vars f ∧ a ≠ f) → v.length + r.length ≤ 1000000 → Rg (M_l33_MutexNogoods_L2_B n a l (tbl t R)) (M_l33_MutexNogoods_L2_E n a l (tbl t R)) r i v = some (.inl (v ++ (r.filter (opP t R a)).map fun b => ngO [a, b]))
  | [], i, v, _, _ => by rw [Rg, M_l33_MutexNogoods_L2_E]; simp
  | b :: r, i, v, hr, hl => by
    rw [List.length_cons] at hl
    obtain ⟨hb, hne⟩ := hr b (List.mem_cons_self ..)
    have ih := fun v' hv => nog2 n ha l r (i + 1) v' (fun f hf => hr f (List.mem_cons_of_mem _ hf)) hv
    have hab : togF t R a b = (isF t R a a && (isF t R b b && (a.1 != b.1 && isF t R a b))) := by
      rw [togF, rea_is ha, rea_is hb, decide_eq_false hne, Bool.false_or]
    have hba : togF t R b a = togF t R a b := by
      rw [hab, togF, rea_is ha, rea_is hb, decide_eq_false (fun e => hne e.symm), Bool.false_or, hS b a hb ha]
      rw [show (b.1 != a.1) = (a.1 != b.1) from by rw [Bool.eq_iff_iff, bne_iff_ne, bne_iff_ne]; exact ne_comm]
      cases isF t R a a <;> cases isF t R b b <;> rfl
    rw [Rg, M_l33_MutexNogoods_L2_B]
    simp only [ixv, together_eq hz hR, reached_eq hz hR, ob1_some, hba]
    rw [show (togF t R a b == togF t R a b) = true from by simp, Bool.not_true, sel_ff, List.filter_cons]
    have e : opP t R a b = (a.1 != b.1 && (isF t R a a && (isF t R b b && !isF t R a b))) := rfl
    rw [e, rea_is ha, rea_is hb, hab]
    by_cases h1 : a.1 = b.1
    · rw [show (a.1 == b.1) = true from by simp [h1], sel_tt, show (a.1 != b.1) = false from by simp [h1]]
      simp only [Bool.false_and, Bool.and_false]
      rw [sel_ff, ob1_some, osum_inl, sel_ff, ih v (by omega)]
      simp
    · rw [show (a.1 == b.1) = false from by simp [h1], sel_ff, show (a.1 != b.1) = true from by simp [h1], ob1_some, osum_inl, sel_tt]
      simp only [Bool.true_and]
      cases h2 : isF t R a a with
      | false => rw [sel_ff, ih v (by omega)]; simp
      | true =>
        cases h3 : isF t R b b with
        | false => rw [sel_tt, sel_ff, ih v (by omega)]; simp
        | true =>
          cases h4 : isF t R a b with
          | true => rw [sel_tt, sel_tt]; simp only [Bool.true_and, Bool.not_true]; rw [sel_ff, ih v (by omega)]; simp
          | false =>
            rw [sel_tt, sel_tt]
            simp only [Bool.true_and, Bool.not_false]
            rw [sel_tt, grd_t (by omega), ih _ (by rw [List.length_append, List.length_singleton]; omega)]
            simp [ngO]
include hS in
theorem nog3 (l : List Fact) (hin : ∀ f ∈ l, InV t.Vars f) (hp : l.Pairwise fun a b => a.1 ≤ b.1 ∧ a ≠ b) (hl : l.length ≤ 512) : ∀ (r : List Fact) (n : Nat) (v : List Nogood), l.drop n = r → v.length + r.length * 512 ≤ 900000 → Rg (M_l33_MutexNogoods_L3_B l (tbl t R)) (M_l33_MutexNogoods_L3_E l (tbl t R)) r n v = some (.inl (v ++ (pairG t R r).map ngO))
  | [], n, v, _, _ => by rw [Rg, M_l33_MutexNogoods_L3_E]; simp [pairG]
  | a :: r, n, v, hd, ho => by
    obtain ⟨h1, h2, h3⟩ := drop_cons hd
    simp only [List.length_cons] at ho
    have hw : IntKind.i64.wrap ((n : Int) + 1) = ((n + 1 : Nat) : Int) := w64s (by omega)
    have hr : r.length ≤ 512 := by rw [← h2, List.length_drop]; omega
    have hcur : (l.take ((l.map cF).length)).drop ((IntKind.i64.wrap ((n : Int) + 1)).toNat) = r := by
      rw [hw, List.length_map, List.take_length, Int.toNat_natCast, h2]
    have hmem : ∀ f ∈ r, InV t.Vars f := fun f hf => hin f (List.mem_of_mem_drop (by rw [h2]; exact hf))
    have hpd : (a :: r).Pairwise fun a b => a.1 ≤ b.1 ∧ a ≠ b := by rw [← hd]; exact hp.drop
    have hne := (List.pairwise_cons.1 hpd).1
    have ha := hin a (List.mem_of_getElem? h1)
    have e := M_l33_MutexNogoods_L2_eq n a l (tbl t R) v (by rw [hcur]; omega)
    have hlen : ((r.filter (opP t R a)).map (fun b => ngO [a, b])).length ≤ 512 := by
      rw [List.length_map]
      exact Nat.le_trans (List.length_filter_le _ _) hr
    rw [Rg, M_l33_MutexNogoods_L3_B, ixv, grd_t (by rw [hw]; omega), grd_t (by rw [hw, List.length_map]; omega), e, hcur, nog2 hz hR hS n ha l r 0 v (fun f hf => ⟨hmem f hf, (hne f hf).2⟩) (by omega), ob1_some, osum_inl]
    have ih := nog3 l hin hp hl r (n + 1) (v ++ (r.filter (opP t R a)).map (fun b => ngO [a, b])) h2 (by rw [List.length_append]; omega)
    rw [show ((n : Int) + 1) = ((n + 1 : Nat) : Int) from rfl, ih, pairG, List.map_append, List.append_assoc, List.map_map]
    rfl
end
theorem openF_small {t : GTask} (F : Fit3 t) (R : List (List Bool)) : (openF t R).length ≤ 4096 := by
  have h : (allL t.Vars).length ≤ 24 := by
    have := factsG_len t.Vars 0 F.sz.pos
    have := sumI_le (r := t.Vars) (m := 4) fun k hk => (F.dom k hk).2
    have := F.vlen
    unfold allL
    omega
  have h1 := oneF_len (t := t) R (allL t.Vars)
  have h2 := pairG_len (t := t) (R := R) (allL t.Vars)
  have h3 := Nat.mul_le_mul h h
  unfold openF
  rw [List.length_append]
  omega
theorem ng_prop {t : GTask} {R : List (List Bool)} : ∀ n ∈ ngF t R, propF t.Vars (-1) n.1 = true ∧ n.2 = 0 ∧ 1 ≤ n.1.length ∧ n.1.length ≤ 2 := fun n hn => by
  obtain ⟨p, hp, rfl⟩ := List.mem_map.1 hn
  obtain ⟨a, b, hs, rfl, -⟩ := open_mem.1 hp
  refine ⟨hs.prop, rfl, ?_, hs.sh⟩
  show 1 ≤ (pset a b).length
  unfold pset
  split <;> simp
theorem ng_sh {t : GTask} (F : Fit3 t) (R : List (List Bool)) : ShC { Bound := -1, Nogoods := ngF t R } := by
  have h := openF_small F R
  refine ⟨?_, fun n hn => ?_⟩
  · show (ngF t R).length ≤ _
    rw [ngF, List.length_map]; omega
  · have := (ng_prop n hn).2.2.2
    show n.1.length ≤ _
    omega
theorem ng_cert {t : GTask} (F : Fit3 t) (R : List (List Bool)) : properF t.Vars { Bound := -1, Nogoods := ngF t R } = .nil := by
  have hl : (ngF t R).length ≤ 4096 := by rw [ngF, List.length_map]; exact openF_small F R
  have hv := F.vlen
  have h1 : certF { Bound := -1, Nogoods := ngF t R } = .nil := by
    unfold certF
    dsimp only
    rw [if_neg (by omega), if_neg (by omega), if_pos, if_pos]
    · rw [List.all_eq_true]
      intro n hn
      have := (ng_prop n hn).2.1
      unfold distF
      rw [decide_eq_true_iff]
      omega
    · rw [List.all_eq_true]
      intro n hn
      obtain ⟨h1, -⟩ := ng_prop n hn
      obtain ⟨hv1, hr⟩ := (propF_iff t.Vars n.1 (-1)).1 h1
      unfold frmF limF
      rw [hv1, Bool.true_and, List.all_eq_true]
      intro f hf
      have := (propF_iff t.Vars n.1 (-1)).1 h1
      have h2 := hr f hf
      have h3 := inV_at h1 f hf
      have h4 : t.Vars.getD f.1.toNat 0 ≤ 4 := by
        rw [List.getD_eq_getElem?_getD]
        cases hg : t.Vars[f.1.toNat]? with
        | none => simp
        | some n => exact (F.dom n (List.mem_of_getElem? hg)).2
      rw [decide_eq_true_iff]
      omega
  unfold properF
  rw [h1]
  dsimp only
  rw [if_pos]
  rw [List.all_eq_true]
  exact fun n hn => (ng_prop n hn).1
theorem nogoods_true (g : Nat) (hg : 1000000 ≤ g) (t : GTask) (ht : ShT t) : M_l33_MutexNogoods g t = some true := by
  rw [M_l33_MutexNogoods]
  refine law_head ht g hg fun F => ?_
  obtain ⟨R, h1, h2, -⟩ := new_eq F ht g hg (Q := fun _ => True) (fun _ _ _ _ _ _ _ _ => trivial) (fun _ _ _ _ => trivial)
  have hz := F.sz
  have hal : (allL t.Vars).length ≤ 512 := by
    have := factsG_len t.Vars 0 hz.pos
    have := hz.small
    unfold allL
    omega
  have e1 := nog1 hz h2.rk (allL t.Vars) (allL t.Vars) 0 [] all_in (by simp; omega)
  have hone := oneF_len (t := t) R (allL t.Vars)
  have e3 := nog3 hz h2.rk h2.sy (allL t.Vars) all_in (factsG_asc t.Vars 0) hal (allL t.Vars) 0 ((oneF t R (allL t.Vars)).map ngO) rfl (by rw [List.length_map]; omega)
  rw [List.nil_append] at e1
  rw [show ((0 : Nat) : Int) = 0 from rfl] at e3
  have hng : (oneF t R (allL t.Vars)).map ngO ++ (pairG t R (allL t.Vars)).map ngO = ngF t R := by rw [← List.map_append]; rfl
  have hsh := ng_sh F R
  have hl : (ngF t R).length ≤ 4096 := by rw [ngF, List.length_map]; exact openF_small F R
  rw [h1, ob2_some, erM, facts33_eq hz, ob1_some, opM, M_l33_MutexNogoods_L1_eq _ _ _ (by omega), e1, ob1_some, osum_inl, M_l33_MutexNogoods_L3_eq _ _ _ (by omega), e3, ob1_some, osum_inl, hng, nogoods_eq hz h2.rk, ob1_some, grd_t (by omega), same_self _ hsh.list hsh.each, ob1_some, sel_tt, ref_proper _ _ hsh, ob1_some, ng_cert F R]
  rfl
end Go.Proofs.YtinnphmnhmdcgaaGreat.Am
namespace Go.Proofs.YtinnphmnhmdcgaaGreat
open Go.RowKit Go.ChangeShapes Go.WideShapes Go.Deep Go.Joins

def I64 (x : Int) : Prop := -9223372036854775808 ≤ x ∧ x ≤ 9223372036854775807
theorem I64.of {x : Int} (h : (Lit.int .i64 x).wf = true) : I64 x := by
  have := bounds_i64 h
  exact this

section
variable {H : Type} {enc : TypeId × Value → H} {P : Program} {w : World} {base : Nat} {spare : Nat → Bool} {held : Bool}

def Sized (P : Program) (t : TypeId) (d : DataW H) : Prop := ∀ n ∈ d.weights P t, n ≤ reachBytes
theorem sized_arg {ts : List TypeId} {ds : List (DataW H)} (h : (DataW.weightsEach P ts ds).all (· ≤ reachBytes) = true) {j : Nat} {t : TypeId} {d : DataW H} (ht : ts[j]? = some t) (hd : ds[j]? = some d) : Sized P t d :=
  fun n hn => of_decide_eq_true (List.all_eq_true.1 h n (DataW.weights_mem_each ht hd n hn))
theorem sized_field {t : TypeId} {fs : Array Field} {parts : List (DataW H)} (h : Sized P t (.agg parts)) (hu : P.underlying t = some (.struct fs)) {j : Nat} {f : Field} {d : DataW H} (hf : fs[j]? = some f) (hd : parts[j]? = some d) : Sized P f.type d :=
  fun n hn => h n (by
    simp only [DataW.weights, hu]
    exact DataW.weights_mem_each (j := j) (by simp [List.getElem?_map, hf]) hd n hn)
theorem weightsAll_mem {e : TypeId} : ∀ {l : List (DataW H)} {d : DataW H}, d ∈ l → ∀ n ∈ d.weights P e, n ∈ DataW.weightsAll P e l
  | x :: l, d, hd, n, hn => by
    simp only [DataW.weightsAll, List.mem_append]
    rcases List.mem_cons.1 hd with rfl | h
    · exact Or.inl hn
    · exact Or.inr (weightsAll_mem h n hn)
theorem sized_elem {t e : TypeId} {elems sp : List (DataW H)} (h : Sized P t (.slice elems sp)) (hu : P.underlying t = some (.slice e)) {d : DataW H} (hd : d ∈ elems) : Sized P e d :=
  fun n hn => h n (by
    simp only [DataW.weights, hu, List.mem_cons, List.mem_append]
    exact Or.inr (Or.inl (weightsAll_mem hd n hn)))
theorem sized_len {t e : TypeId} {elems sp : List (DataW H)} (h : Sized P t (.slice elems sp)) (hu : P.underlying t = some (.slice e)) : elems.length * P.bytesOf e ≤ 140737488355328 := by
  have h1 := h ((elems.length + sp.length) * P.bytesOf e) (by simp [DataW.weights, hu])
  have h2 : elems.length * P.bytesOf e ≤ (elems.length + sp.length) * P.bytesOf e := Nat.mul_le_mul_right _ (by omega)
  have h3 : reachBytes ≤ 140737488355328 := by decide
  omega

end

theorem spot_of_cell {w : World} {p : Addr} {v : Value} (h : w.cell? p = some v) : p.spot = none := by
  unfold World.cell? at h
  split at h
  · split at h
    · cases h
    · rename_i hs; simpa using hs
  · cases h
theorem addr_of_cell {w : World} {a : Addr} {k : Nat} {v : Value} (h0 : ∃ u, w.cell? (a.add 0) = some u) (h : w.cell? (a.add k) = some v) : a = ⟨a.block, a.off, none⟩ ∧ w.cell? ⟨a.block, a.off + k, none⟩ = some v := by
  obtain ⟨u, hu⟩ := h0
  have hs := spot_of_cell hu
  obtain ⟨b, off, sp⟩ := a
  simp [Addr.add] at hs
  subst hs
  refine ⟨rfl, ?_⟩
  rw [← h]
  congr 1
  unfold Addr.add
  split
  · subst k; rfl
  · rfl

theorem list_of {α : Type} (n : Nat) (R : Nat → α → Prop) (h : ∀ i, i < n → ∃ x, R i x) : ∃ l : List α, l.length = n ∧ ∀ k x, l[k]? = some x → R k x := by
  induction n with
  | zero => exact ⟨[], rfl, fun k x hx => by simp at hx⟩
  | succ n ih =>
    obtain ⟨l, hl, hr⟩ := ih (fun i hi => h i (by omega))
    obtain ⟨x, hx⟩ := h n (by omega)
    refine ⟨l ++ [x], by simp [hl], fun k y hy => ?_⟩
    by_cases hk : k < n
    · rw [List.getElem?_append_left (by omega)] at hy
      exact hr k y hy
    · rw [List.getElem?_append_right (by omega)] at hy
      have hk' : k - l.length = 0 := by
        have := (List.getElem?_eq_some_iff.1 hy).1
        simp at this
        omega
      rw [hk'] at hy
      simp at hy
      subst hy
      obtain rfl : k = n := by omega
      exact hx

variable {H : Type} {enc : TypeId × Value → H} {w : World} {base : Nat} {spare : Nat → Bool} {held : Bool}
end Go.Proofs.YtinnphmnhmdcgaaGreat
namespace Go.Proofs.YtinnphmnhmdcgaaGreat.Am
open Go.RowKit Go.ChangeShapes Go.WideShapes Go.Deep Go.Joins

abbrev mZ : MM := mO (fun _ => False)
theorem noZ (b : Nat) : ¬ Owned nov mZ b := fun h => owned_nov.1 h

section
variable {H : Type} {enc : TypeId × Value → H} {P : Program} {w : World} {base : Nat} {spare : Nat → Bool} {held : Bool}
def CellsRv (w : World) (es : List AV) (cs : List Value) : Prop := es.length = cs.length ∧ (∀ (j : Nat) (y : AV) (u : Value), es[j]? = some y → cs[j]? = some u → RV w nov mZ y u ∧ u.oneCell' = true) ∧ ∀ y ∈ es, Fr y
def Opens (enc : TypeId × Value → H) (P : Program) (w : World) (base : Nat) (spare : Nat → Bool) (held : Bool) (t : TypeId) {α : Type} (en : α → List AV) (R : α → Prop) : Prop :=
  ∀ (fuel : Nat) (cs : List Value) (x : DataW H × List MemPlace), DataW.trod enc P w base spare held fuel t cs = some x → Sized P t x.1 → ∃ a, R a ∧ CellsRv w (en a) cs

theorem cells_one1 {y : AV} {u : Value} (h : RV w nov mZ y u) (h1 : u.oneCell' = true) (hf : Fr y) : CellsRv w [y] [u] := by
  refine ⟨rfl, fun j z v hz hv => ?_, fun z hz => by simp at hz; subst hz; exact hf⟩
  cases j with
  | zero => simp at hz hv; subst hz hv; exact ⟨h, h1⟩
  | succ j => simp at hz
theorem opens_int {t : TypeId} {k : IntKind} (ht : P.underlying t = some (.int k)) : Opens enc P w base spare held t (fun z : Int => [.c (.int k z)]) (fun z => (Lit.int k z).wf = true) := by
  intro fuel cs x h _
  obtain ⟨z, rfl, _, wz⟩ := DataW.trod_int ht h
  exact ⟨z, wz, cells_one1 (.c _) rfl (.c _)⟩
theorem opens_slice {t e : TypeId} {α : Type} {en : α → List AV} {R : α → Prop} {sz by_ : Nat} (ht : P.underlying t = some (.slice e)) (hc : P.cellsOf e = sz) (hb : P.bytesOf e = by_) (hby : 0 < by_) (hsz : 0 < sz) (he : Opens enc P w base spare held e en R) :
    Opens enc P w base spare held t (fun l : List α => [.sl sz (l.map en)]) (fun l => l.length * by_ ≤ 140737488355328 ∧ ∀ x ∈ l, R x) := by
  intro fuel cs x h hs
  rcases open_slice ht h with ⟨rfl, _⟩ | ⟨a, len, cap, m, n, D, Pl, rfl, _, hl, hm, hmm, rfl, hi⟩
  · refine ⟨[], ⟨by simp, by simp⟩, cells_one1 ?_ rfl (.sl (fun e he => by cases he))⟩
    exact RV.sl (l := []) (b := 0) (off := 0) (f := fun _ _ => undef) (fun h => absurd rfl h) (Nat.zero_le _) (by simp) (fun k e h => by simp at h) (fun k j e x h => by simp at h) (fun k j e x h => by simp at h) (fun e he => by cases he)
  · have hlen := sized_len hs ht
    rw [hb] at hlen
    simp only [List.length_map, List.length_range] at hlen
    have hml : len ≤ m := by rw [hmm]; split <;> omega
    have hcell : ∀ i, i < len → ∃ z : α, R z ∧ ∃ cs', CellsRv w (en z) cs' ∧ cs'.length = sz ∧ ∀ j, j < sz → w.cell? (a.add (i * sz + j)) = cs'[j]? := by
      intro i hi'
      obtain ⟨cs', hcc, ht'⟩ := hi i (by omega)
      rw [hc] at hcc
      obtain ⟨z, hz, hcr⟩ := he n cs' _ ht' (sized_elem hs ht (List.mem_map.2 ⟨i, by simpa using hi', rfl⟩))
      obtain ⟨_, hcl', hat⟩ := World.cells?_some hcc
      exact ⟨z, hz, cs', hcr, hcl', fun j hj => by rw [← hat j hj, Go.Deep.add_add]⟩
    obtain ⟨l, hl', hat⟩ := list_of len _ hcell
    have hR : ∀ x ∈ l, R x := fun x hx => by
      obtain ⟨k, hk⟩ := List.getElem?_of_mem hx
      exact (hat k x hk).1
    have hfr : FrL (l.map en) := by
      intro e he
      obtain ⟨x, hx, rfl⟩ := List.mem_map.1 he
      obtain ⟨k, hk⟩ := List.getElem?_of_mem hx
      obtain ⟨_, cs', hcr, _⟩ := hat k x hk
      exact hcr.2.2
    refine ⟨l, ⟨by rw [hl']; exact hlen, hR⟩, cells_one1 ?_ rfl (.sl hfr)⟩
    have key : ∀ (k j : Nat) (e : List AV) (y : AV), (l.map en)[k]? = some e → e[j]? = some y → e.length = sz ∧ ∃ u, w.cell? ⟨a.block, a.off + (k * sz + j), none⟩ = some u ∧ u.oneCell' = true ∧ RV w nov mZ y u ∧ a = ⟨a.block, a.off, none⟩ ∧ a.block < w.heap.size := by
      intro k j e y hk hj
      rw [List.getElem?_map] at hk
      cases hx : l[k]? with
      | none => rw [hx] at hk; cases hk
      | some z =>
        rw [hx] at hk
        simp at hk
        subst hk
        obtain ⟨_, cs', ⟨c1, c2, _⟩, c4, c5⟩ := hat k z hx
        have hjl : j < sz := by rw [← c4, ← c1]; exact (List.getElem?_eq_some_iff.1 hj).1
        have hcj := c5 j hjl
        have hget : cs'[j]? = some (cs'[j]'(by omega)) := List.getElem?_eq_getElem _
        rw [hget] at hcj
        obtain ⟨r1, r2⟩ := c2 j y _ hj hget
        have h0 : 0 < len := by have := (List.getElem?_eq_some_iff.1 hx).1; omega
        obtain ⟨_, _, cs0, ⟨_, _, _⟩, d4, d5⟩ := hcell 0 h0
        have hz0 := d5 0 hsz
        rw [List.getElem?_eq_getElem (by omega)] at hz0
        obtain ⟨e1, e2⟩ := addr_of_cell ⟨_, by simpa using hz0⟩ hcj
        exact ⟨by rw [c1, c4], _, e2, r2, r1, e1, lt_of_cell (p := ⟨a.block, a.off + (k * sz + j), none⟩) e2⟩
    have hlen2 : (l.map en).length = len := by simp [hl']
    have := RV.sl (w := w) (vs := nov) (m := mZ) (sz := sz) (l := l.map en) (A := some a) (cap := cap) (b := a.block) (off := a.off) (f := fun k j => (w.cell? ⟨a.block, a.off + (k * sz + j), none⟩).getD undef)
      (fun hne => ?_) (by omega) (by rw [hlen2]; exact Nat.le_trans (Nat.le_mul_of_pos_right _ hby) hlen) (fun k e hk => ?_) (fun k j e y hk hj => ?_) (fun k j e y hk hj => ?_) hfr
    · rw [hlen2] at this
      exact this
    · have h0 : 0 < (l.map en).length := List.length_pos_iff.2 hne
      have hk := List.getElem?_eq_getElem h0
      obtain ⟨x0, hx0, hx0'⟩ : ∃ x0, l[0]? = some x0 ∧ (l.map en)[0] = en x0 := by
        have h1 : 0 < l.length := by simpa using h0
        exact ⟨l[0], List.getElem?_eq_getElem h1, by simp⟩
      obtain ⟨_, cs', ⟨c1, _, _⟩, c4, _⟩ := hat 0 x0 hx0
      have hel : 0 < ((l.map en)[0]).length := by rw [hx0', c1, c4]; exact hsz
      obtain ⟨_, _, _, _, _, q1, q2⟩ := key 0 0 _ _ hk (List.getElem?_eq_getElem hel)
      exact ⟨by rw [← q1], noZ _, q2⟩
    · rw [List.getElem?_map] at hk
      cases hx : l[k]? with
      | none => rw [hx] at hk; cases hk
      | some z =>
        rw [hx] at hk
        simp at hk
        subst hk
        obtain ⟨_, cs', ⟨c1, _, _⟩, c4, _⟩ := hat k z hx
        rw [c1, c4]
    · obtain ⟨_, u, q1, q2, _⟩ := key k j e y hk hj
      rw [q1]
      exact ⟨rfl, q2⟩
    · obtain ⟨_, u, q1, _, q3, _⟩ := key k j e y hk hj
      rw [q1]
      exact q3

def OpensF (enc : TypeId × Value → H) (P : Program) (w : World) (base : Nat) (spare : Nat → Bool) (held : Bool) (fs : List Field) (off tot : Nat) {α : Type} (en : α → List AV) (R : α → Prop) : Prop :=
  ∀ (fuel : Nat) (cs : List Value) (xs : List (DataW H × List MemPlace)), cs.length = tot → xs.length = fs.length → (∀ (i : Nat) (f : Field), fs[i]? = some f → DataW.trod enc P w base spare held fuel f.type ((cs.drop f.offset).take (P.cellsOf f.type)) = xs[i]?) →
    (∀ (i : Nat) (f : Field) (x : DataW H × List MemPlace), fs[i]? = some f → xs[i]? = some x → Sized P f.type x.1) → ∃ a, R a ∧ CellsRv w (en a) (cs.drop off)
theorem cells_append {a b : List AV} {xs ys : List Value} (h1 : CellsRv w a xs) (h2 : CellsRv w b ys) : CellsRv w (a ++ b) (xs ++ ys) := by
  refine ⟨by rw [List.length_append, List.length_append, h1.1, h2.1], fun j y u hy hu => ?_, fun y hy => ?_⟩
  · rcases Nat.lt_or_ge j a.length with hlt | hge
    · rw [List.getElem?_append_left hlt] at hy
      rw [List.getElem?_append_left (by rw [← h1.1]; exact hlt)] at hu
      exact h1.2.1 j y u hy hu
    · rw [List.getElem?_append_right hge] at hy
      rw [List.getElem?_append_right (by rw [← h1.1]; exact hge)] at hu
      rw [h1.1] at hy
      exact h2.2.1 _ y u hy hu
  · rcases List.mem_append.1 hy with h | h
    · exact h1.2.2 y h
    · exact h2.2.2 y h
theorem opensF_last {f : Field} {off tot : Nat} {α : Type} {en : α → List AV} {R : α → Prop} (ho : f.offset = off) (htot : off + P.cellsOf f.type = tot) (h : Opens enc P w base spare held f.type en R) : OpensF enc P w base spare held [f] off tot en R := by
  intro fuel cs xs hcl hx ht hs
  obtain ⟨x, rfl⟩ := List.length_eq_one_iff.1 hx
  have h1 := ht 0 f rfl
  obtain ⟨a, ha, hc⟩ := h fuel _ x h1 (hs 0 f x rfl rfl)
  refine ⟨a, ha, ?_⟩
  rw [ho, List.take_of_length_le (by simp; omega)] at hc
  exact hc
theorem opensF_cons {f : Field} {fs : List Field} {off off' tot : Nat} {α β : Type} {en : α → List AV} {R : α → Prop} {en' : β → List AV} {R' : β → Prop} (ho : f.offset = off) (hoff : off + P.cellsOf f.type = off') (h : Opens enc P w base spare held f.type en R) (h' : OpensF enc P w base spare held fs off' tot en' R') :
    OpensF enc P w base spare held (f :: fs) off tot (fun p : α × β => en p.1 ++ en' p.2) (fun p => R p.1 ∧ R' p.2) := by
  intro fuel cs xs hcl hx ht hs
  cases xs with
  | nil => simp at hx
  | cons x xs =>
    obtain ⟨a, ha, hc⟩ := h fuel _ x (ht 0 f rfl) (hs 0 f x rfl rfl)
    obtain ⟨b, hb, hc'⟩ := h' fuel cs xs hcl (by simpa using hx) (fun i g hg => by simpa using ht (i + 1) g (by simpa using hg)) (fun i g y hg hy => hs (i + 1) g y (by simpa using hg) (by simpa using hy))
    refine ⟨(a, b), ⟨ha, hb⟩, ?_⟩
    rw [ho] at hc
    have : cs.drop off = (cs.drop off).take (P.cellsOf f.type) ++ cs.drop off' := by
      rw [← hoff, ← List.drop_drop, List.take_append_drop]
    rw [this]
    exact cells_append hc hc'
theorem opens_struct {t : TypeId} {fs : Array Field} {α : Type} {en : α → List AV} {R : α → Prop} (ht : P.underlying t = some (.struct fs)) (h : OpensF enc P w base spare held fs.toList 0 (P.cellsOf t) en R) : Opens enc P w base spare held t en R := by
  intro fuel cs x hx hs
  obtain ⟨xs, n, _, rfl, hcl, hxl, hf⟩ := DataW.trod_struct ht hx
  obtain ⟨a, ha, hc⟩ := h n cs xs hcl (by simpa using hxl) (fun i f hi => hf i f (by simpa using hi)) (fun i f y hi hy => sized_field hs ht (j := i) (by simpa using hi) (by simp [List.getElem?_map, hy]))
  exact ⟨a, ha, by simpa using hc⟩

theorem agg_rv {es : List AV} {us : Array Value} (h : CellsRv w es us.toList) : RV w nov mZ (.agg es) (.agg us) :=
  .agg (by rw [h.1]; simp) (fun j y u hy hu => (h.2.1 j y u hy (by simpa using hu)).1)
end
end Go.Proofs.YtinnphmnhmdcgaaGreat.Am
namespace Go.Proofs.YtinnphmnhmdcgaaGreat
open Go.RowKit Go.WideShapes Go.ChangeShapes Go.ChangeAt
section
variable {H : Type} {enc : TypeId × Value → H} {P : Program}
theorem post_of_below {f : Func} {s : ChangeSpec} {apart fresh handsOn again : Bool} {W W' : World} {args : Array Value} {v : Value} {ds gs : List (DataW H)} {before pa pv : List MemPlace}
    (hW : DataW.Whole enc P f.params.toList s.vars apart W args.toList ds gs before)
    (hres : ∀ (b : Nat) (sp : Nat → Bool) (hd : Bool), DataW.TrodAll enc P W' b sp hd f.resultTypes.toList (v.resultList f.resultTypes.size) (s.fn H (ds ++ gs)).results [])
    (hargs : ∀ sp : Nat → Bool, (∀ p ∈ before, sp p.block = true) → DataW.TrodAll enc P W' 0 sp true f.params.toList args.toList (s.fn H (ds ++ gs)).args pa)
    (hvars : ∀ sp : Nat → Bool, (∀ p ∈ before, sp p.block = true) → DataW.TrodVars enc P W' sp s.vars (s.fn H (ds ++ gs)).vars pv)
    (hps : before = pa ++ pv) (hb : Below W.heap.size W W')
    (hok : ∀ (j : Nat) (t : TypeId) (r : Value), f.resultTypes[j]? = some t → (v.resultList f.resultTypes.size)[j]? = some r → Value.okWide P W' .any 0 t r) :
    s.post enc P f apart fresh handsOn again W args v W' := by
  have hlt : ∀ p ∈ before, p.block < W.heap.size := fun p hp => hW.lt p hp
  have hold : ∀ p ∈ before, (fun b => decide (b < W.heap.size)) p.block = true := fun p hp => by simpa using hlt p hp
  refine ⟨ds, gs, before, [], pa, pv, hW, hres _ _ _, hargs _ hold, hvars _ hold, World.keptBut_mono (fun p hp => ⟨hp, ?_⟩) (hb.frame (· ∈ before)), fun _ => ?_⟩
  · rw [hps, List.mem_append] at hp
    exact Or.inr hp
  · obtain ⟨_, _, _, _, _, hz, hn⟩ := hW
    refine ⟨hok, _, _, ([] ++ pa) ++ pv, ⟨[] ++ pa, pv, trodAll_append (hargs _ (fun _ _ => rfl)) (hres _ _ _), hvars _ (fun _ _ => rfl), rfl, ?_, ?_⟩, ?_⟩
    · intro b off hp
      have hin : MemPlace.cell b off ∈ before := by rw [hps]; simpa using hp
      rw [hb.frozen (hlt _ hin)]
      exact hz b off hin
    · intro ha
      have := hn ha
      rw [hps] at this
      simpa using this
    · intro p hp _
      rw [hps]
      simpa using hp

theorem trodAll_keep (hl : laidOutB P = true) {W W' : World} (hb : Below W.heap.size W W') (sp : Nat → Bool) (ts : List TypeId) : ∀ (vs : List Value) (ds : List (DataW H)) (ps : List MemPlace), (∀ t ∈ ts, P.readableRec t = true ∧ t < P.types.size) →
    DataW.TrodAll enc P W 0 (fun _ => true) true ts vs ds ps → (∀ x ∈ ps, x.block < W.heap.size) → (∀ x ∈ ps, sp x.block = true) → DataW.TrodAll enc P W' 0 sp true ts vs ds ps := by
  induction ts with
  | nil =>
    intro vs ds ps _ h _ _
    obtain ⟨rfl, rfl, rfl⟩ := trodAll_nil h
    exact trodAll_mk0
  | cons t ts ih =>
    intro vs ds ps hts h hlt hsp
    obtain ⟨v0, vs0, d0, ds0, p0, q0, rfl, rfl, rfl, h0, r0⟩ := trodAll_cons h
    obtain ⟨hr, hrow⟩ := hts t (by simp)
    exact trodAll_cons_mk (WideElems.Trod_stays hl hr hrow h0 (fun x hx => hb.same (hlt x (by simp [hx]))) (fun x hx => hsp x (by simp [hx])))
      (ih _ _ _ (fun t ht => hts t (by simp [ht])) r0 (fun x hx => hlt x (by simp [hx])) (fun x hx => hsp x (by simp [hx])))

theorem law_post (hl : laidOutB P = true) {f : Func} {s : ChangeSpec} {T : TypeId} {W W' : World} {args : Array Value} {ds : List (DataW H)} {before : List MemPlace}
    (hvars : s.vars = []) (hrt : f.resultTypes = #[T]) (hT : P.underlying T = some .bool) (hts : f.params.toList.all (fun t => P.readableRec t && decide (t < P.types.size)) = true)
    (hW : DataW.Whole enc P f.params.toList s.vars false W args.toList ds [] before) (hA : DataW.TrodAll enc P W 0 (fun _ => true) true f.params.toList args.toList ds before)
    (e1 : (s.fn H (ds ++ [])).results = [.lit (.bool true)]) (e2 : (s.fn H (ds ++ [])).args = ds) (e3 : (s.fn H (ds ++ [])).vars = []) (hb : Below W.heap.size W W') :
    s.post enc P f false true false false W args (.bool true) W' := by
  have hlt : ∀ x ∈ before, x.block < W.heap.size := fun x hx => hW.lt x hx
  refine post_of_below (pa := before) (pv := []) hW ?_ ?_ ?_ (by simp) hb ?_
  · intro b sp hd
    rw [e1, hrt]
    exact trodAll_cons_mk (shut_bool hT true) trodAll_mk0
  · intro sp hsp
    rw [e2]
    exact trodAll_keep hl hb sp _ _ _ _ (fun t ht => by simpa using List.all_eq_true.1 hts t ht) hA hlt hsp
  · intro sp hsp
    rw [e3, hvars]
    rfl
  · exact ok_one hrt rfl (okWide_bool_mk hT true)
end
end Go.Proofs.YtinnphmnhmdcgaaGreat
namespace Go.Proofs.YtinnphmnhmdcgaaGreat.Am
open Go.RowKit Go.ChangeShapes Go.WideShapes Go.Deep Go.Joins
section
variable {H : Type} {enc : TypeId × Value → H} {w : World} {base : Nat} {spare : Nat → Bool} {held : Bool}
theorem opens_conv {P : Program} {t : TypeId} {α β : Type} {en : α → List AV} {en2 : β → List AV} {R : α → Prop} {R2 : β → Prop} (f : α → β) (h : Opens enc P w base spare held t en R) (he : ∀ a, en2 (f a) = en a) (hR : ∀ a, R a → R2 (f a)) : Opens enc P w base spare held t en2 R2 := by
  intro fuel cs x hx hs
  obtain ⟨a, ha, hc⟩ := h fuel cs x hx hs
  exact ⟨f a, hR a ha, by rw [he]; exact hc⟩
theorem opens_str2 {P : Program} {t : TypeId} (ht : P.underlying t = some .string) : Opens enc P w base spare held t (fun s : ByteArray => [.c (.string s)]) (fun s => s.size ≤ 140737488355328) := by
  intro fuel cs x h hsz
  obtain ⟨s, rfl, rfl, -⟩ := DataW.trod_string ht h
  refine ⟨s, ?_, cells_one1 (.c _) rfl (.c _)⟩
  have h1 : s.data.toList.length ≤ 140737488355328 := Nat.le_trans (hsz s.data.toList.length (List.mem_singleton.2 rfl)) (by decide)
  rw [Array.length_toList] at h1
  exact h1
abbrev I64F (p : Fact) : Prop := (Lit.int .i64 p.1).wf = true ∧ (Lit.int .i64 p.2).wf = true
abbrev FactsR (l : List Fact) : Prop := l.length * 16 ≤ 140737488355328 ∧ ∀ p ∈ l, I64F p
abbrev EffR (e : GEffect) : Prop := FactsR e.When
abbrev OpR (o : GOp) : Prop := o.Name.size ≤ 140737488355328 ∧ FactsR o.Pre ∧ o.Effs.length * 40 ≤ 140737488355328 ∧ ∀ e ∈ o.Effs, EffR e
abbrev IntsR (l : List Int) : Prop := l.length * 8 ≤ 140737488355328 ∧ ∀ z ∈ l, (Lit.int .i64 z).wf = true
abbrev TaskR (t : GTask) : Prop := IntsR t.Vars ∧ IntsR t.Init ∧ FactsR t.Goal ∧ t.Ops.length * 72 ≤ 140737488355328 ∧ ∀ o ∈ t.Ops, OpR o
set_option maxRecDepth 100000 in
theorem oFact : Opens enc Tryz.prog w base spare held 39 cF I64F :=
  opens_struct Tryz.underlying39 (opensF_cons (off' := 1) rfl (by kernel_rfl) (opens_int Tryz.underlying3) (opensF_last rfl (by kernel_rfl) (opens_int Tryz.underlying3)))
set_option maxRecDepth 100000 in
theorem oFacts : Opens enc Tryz.prog w base spare held 23 (fun l : List Fact => [.sl 2 (l.map cF)]) FactsR :=
  opens_slice Tryz.underlying23 (by kernel_rfl) (by kernel_rfl) (by decide) (by decide) oFact
set_option maxRecDepth 100000 in
theorem oInts : Opens enc Tryz.prog w base spare held 22 (fun l : List Int => [.sl 1 (l.map cI)]) IntsR :=
  opens_slice Tryz.underlying22 (by kernel_rfl) (by kernel_rfl) (by decide) (by decide) (opens_int Tryz.underlying3)
set_option maxRecDepth 100000 in
theorem oEff : Opens enc Tryz.prog w base spare held 76 cGEffect EffR :=
  opens_conv (fun p : List Fact × (Int × Int) => { When := p.1, Var := p.2.1, Val := p.2.2 : GEffect })
    (opens_struct Tryz.underlying76 (opensF_cons (off' := 1) (en := fun l : List Fact => [AV.sl 2 (l.map cF)]) (R := FactsR) (en' := fun z : Int × Int => [AV.c (.int .i64 z.1)] ++ [AV.c (.int .i64 z.2)]) (R' := fun z : Int × Int => (Lit.int .i64 z.1).wf = true ∧ (Lit.int .i64 z.2).wf = true) rfl (by kernel_rfl) oFacts
      (opensF_cons (off' := 2) (en := fun z : Int => [AV.c (.int .i64 z)]) (R := fun z : Int => (Lit.int .i64 z).wf = true) (en' := fun z : Int => [AV.c (.int .i64 z)]) (R' := fun z : Int => (Lit.int .i64 z).wf = true) rfl (by kernel_rfl) (opens_int Tryz.underlying3) (opensF_last rfl (by kernel_rfl) (opens_int Tryz.underlying3)))))
    (fun _ => rfl) (fun _ h => h.1)
set_option maxRecDepth 100000 in
theorem oOp : Opens enc Tryz.prog w base spare held 60 cGOp OpR :=
  opens_conv (fun p : ByteArray × (Int × (List Fact × List GEffect)) => { Name := p.1, Cost := p.2.1, Pre := p.2.2.1, Effs := p.2.2.2 : GOp })
    (opens_struct Tryz.underlying60 (opensF_cons (off' := 1) (en := fun s : ByteArray => [AV.c (.string s)]) (R := fun s => s.size ≤ 140737488355328) (en' := fun p : Int × (List Fact × List GEffect) => [AV.c (.int .i64 p.1)] ++ ([AV.sl 2 (p.2.1.map cF)] ++ [AV.sl 3 (p.2.2.map cGEffect)])) (R' := fun p : Int × (List Fact × List GEffect) => (Lit.int .i64 p.1).wf = true ∧ (FactsR p.2.1 ∧ (p.2.2.length * 40 ≤ 140737488355328 ∧ ∀ e ∈ p.2.2, EffR e))) rfl (by kernel_rfl) (opens_str2 Tryz.underlying9)
      (opensF_cons (off' := 2) (en := fun z : Int => [AV.c (.int .i64 z)]) (R := fun z : Int => (Lit.int .i64 z).wf = true) (en' := fun p : List Fact × List GEffect => [AV.sl 2 (p.1.map cF)] ++ [AV.sl 3 (p.2.map cGEffect)]) (R' := fun p : List Fact × List GEffect => FactsR p.1 ∧ (p.2.length * 40 ≤ 140737488355328 ∧ ∀ e ∈ p.2, EffR e)) rfl (by kernel_rfl) (opens_int Tryz.underlying3)
        (opensF_cons (off' := 3) (en := fun l : List Fact => [AV.sl 2 (l.map cF)]) (R := FactsR) (en' := fun l : List GEffect => [AV.sl 3 (l.map cGEffect)]) (R' := fun l : List GEffect => l.length * 40 ≤ 140737488355328 ∧ ∀ e ∈ l, EffR e) rfl (by kernel_rfl) oFacts
          (opensF_last rfl (by kernel_rfl) (opens_slice Tryz.underlying58 (by kernel_rfl) (by kernel_rfl) (by decide) (by decide) oEff))))))
    (fun _ => rfl) (fun _ h => ⟨h.1, h.2.2.1, h.2.2.2⟩)
set_option maxRecDepth 100000 in
theorem oTask : Opens enc Tryz.prog w base spare held 26 cGTask TaskR :=
  opens_conv (fun p : List Int × (List Int × (List Fact × List GOp)) => { Vars := p.1, Init := p.2.1, Goal := p.2.2.1, Ops := p.2.2.2 : GTask })
    (opens_struct Tryz.underlying26 (opensF_cons (off' := 1) (en := fun l : List Int => [AV.sl 1 (l.map cI)]) (R := IntsR) (en' := fun p : List Int × (List Fact × List GOp) => [AV.sl 1 (p.1.map cI)] ++ ([AV.sl 2 (p.2.1.map cF)] ++ [AV.sl 4 (p.2.2.map cGOp)])) (R' := fun p : List Int × (List Fact × List GOp) => IntsR p.1 ∧ (FactsR p.2.1 ∧ (p.2.2.length * 72 ≤ 140737488355328 ∧ ∀ o ∈ p.2.2, OpR o))) rfl (by kernel_rfl) oInts
      (opensF_cons (off' := 2) (en := fun l : List Int => [AV.sl 1 (l.map cI)]) (R := IntsR) (en' := fun p : List Fact × List GOp => [AV.sl 2 (p.1.map cF)] ++ [AV.sl 4 (p.2.map cGOp)]) (R' := fun p : List Fact × List GOp => FactsR p.1 ∧ (p.2.length * 72 ≤ 140737488355328 ∧ ∀ o ∈ p.2, OpR o)) rfl (by kernel_rfl) oInts
        (opensF_cons (off' := 3) (en := fun l : List Fact => [AV.sl 2 (l.map cF)]) (R := FactsR) (en' := fun l : List GOp => [AV.sl 4 (l.map cGOp)]) (R' := fun l : List GOp => l.length * 72 ≤ 140737488355328 ∧ ∀ o ∈ l, OpR o) rfl (by kernel_rfl) oFacts
          (opensF_last rfl (by kernel_rfl) (opens_slice Tryz.underlying24 (by kernel_rfl) (by kernel_rfl) (by decide) (by decide) oOp))))))
    (fun _ => rfl) (fun _ h => h)
theorem arg_struct {P : Program} {t : TypeId} {fs : Array Field} {α : Type} {en : α → List AV} {R : α → Prop} {r : Reach} {b0 : Nat} {v : Value} {d : DataW H} {p : List MemPlace} (ht : P.underlying t = some (.struct fs)) (hv : Value.okWide P w r b0 t v) (ho : Opens enc P w base spare held t en R) (h : DataW.Trod enc P w base spare held t v d p) (hs : Sized P t d) :
    ∃ a, R a ∧ RV w nov mZ (.agg (en a)) v := by
  obtain ⟨cs, rfl, hsz⟩ := okWide_struct ht hv
  obtain ⟨fuel, hf⟩ := h
  obtain ⟨a, ha, hc⟩ := ho fuel _ _ hf hs
  exact ⟨a, ha, agg_rv hc⟩
end
theorem TaskR.sh {t : GTask} (h : TaskR t) : ShT t := by
  obtain ⟨⟨h1, -⟩, ⟨h2, -⟩, ⟨h3, -⟩, h4, h5⟩ := h
  refine ⟨?_, ?_, ?_, ?_, fun o ho => ?_⟩
  · show _ ≤ _; omega
  · show _ ≤ _; omega
  · show _ ≤ _; omega
  · show _ ≤ _; omega
  · obtain ⟨g1, ⟨g2, -⟩, g3, g4⟩ := h5 o ho
    refine ⟨by omega, ?_, ?_, fun e he => ?_⟩
    · show _ ≤ _; omega
    · show _ ≤ _; omega
    · have := (g4 e he).1
      show _ ≤ _; omega
theorem FactsR.sh {l : List Fact} (h : FactsR l) : Sh l := by have := h.1; show _ ≤ _; omega
theorem law_of {f : FuncId} {args : List AV} {w : World} {cargs : Array Value} (h : ACall cx f args (.c (.bool true))) (hs : cargs.size = args.length) (hr : ∀ (j : Nat) (x : AV) (v : Value), args[j]? = some x → cargs[j]? = some v → RV w nov (mO (fun _ => False)) x v) :
    Calls Tryz.prog f cargs w fun e w' => e = .returned (.bool true) ∧ Below w.heap.size w w' := by
  refine Calls.mono (h.2 w (fun _ => False) cargs trivial (Nat.zero_le _) (fun b hb => hb.elim) hs hr) ?_
  rintro e w' ⟨v, rfl, h1, h2, _⟩
  rw [rv_c h1]
  exact ⟨rfl, ⟨h2.os, h2.tape, h2.output, h2.size, fun b hb => h2.block b hb (fun h => h)⟩⟩
end Go.Proofs.YtinnphmnhmdcgaaGreat.Am
namespace Go.Proofs.YtinnphmnhmdcgaaGreat.rowNogoods
open Go.ChangeShapes Go.WideShapes Go.ChangeAt Go.RowKit Am
theorem laidOut : laidOutB Tryz.prog = true := by kernel_rfl
set_option maxRecDepth 100000 in
theorem contract (H : Type) (enc : TypeId × Value → H) (W : World) (base : Nat) (args : Array Value) (ds gs : List (DataW H)) (before : List MemPlace)
    (hval : ∀ (j : Nat) t v, Tryz.f4.params[j]? = some t → args[j]? = some v → Value.okWide Tryz.prog W .any base t v)
    (hW : DataW.Whole enc Tryz.prog Tryz.f4.params.toList Rows.mutexNogoodsSpec.vars false W args.toList ds gs before)
    (hsz : (DataW.weightsEach Tryz.prog (Tryz.f4.params.toList ++ (OpenSpec.ofChange Rows.mutexNogoodsSpec).bare.plain.varTypes Tryz.prog) (ds ++ gs)).all (· ≤ reachBytes) = true) :
    Calls Tryz.prog 4 args W fun e W' => ∃ v, e = .returned v ∧ Rows.mutexNogoodsSpec.post enc Tryz.prog Tryz.f4 false true false false W args v W' := by
  have hW' := hW
  obtain ⟨p, q, hA0, hV, rfl, hfz, hnd⟩ := hW
  have hA : DataW.TrodAll enc Tryz.prog W 0 (fun _ => true) true Tryz.f4.params.toList args.toList ds p := hA0
  rw [Tryz.params4] at hA hval
  obtain ⟨v0, vs0, d0, ds0, p0, q0, hargs, rfl, rfl, h0, r0⟩ := trodAll_cons hA
  obtain ⟨rfl, rfl, rfl⟩ := trodAll_nil r0
  obtain rfl : args = #[v0] := Array.ext' hargs
  obtain ⟨rfl, rfl⟩ := trodVars_none hV
  simp only [List.append_nil] at hW' hA0 hsz
  rw [Tryz.params4] at hsz
  obtain ⟨t, ht, k0⟩ := arg_struct Tryz.underlying26 (hval 0 26 v0 rfl rfl) oTask h0 (sized_arg hsz (j := 0) rfl rfl)
  refine (law_of (A_l33_MutexNogoods 1000000000000000000 t (nogoods_true _ (by decide) t ht.sh)) rfl (fun j x v hx hv => ?_)).mono fun e W' ⟨he, hb⟩ => ?_
  · match j, hx, hv with
    | 0, hx, hv => simp at hx hv; subst hx hv; exact k0
    | j + 1, hx, hv => simp at hx
  · subst he
    exact ⟨_, rfl, law_post laidOut rfl (by kernel_rfl) Tryz.underlying4 (by kernel_rfl) hW' hA0 rfl rfl rfl hb⟩
theorem own : ownKnob Tryz.prog.godebug = none := by kernel_rfl
theorem laid_met (os : Os) : laidMet Tryz.prog Rows.mutexNogoodsRow.laid ((World.holding Tryz.prog os ⟨#[], #[], []⟩).forCall (fun _ _ => 0) ⟨#[], #[.agg #[.slice none 0 0, .slice none 0 0, .slice none 0 0, .slice none 0 0]], []⟩).memory :=
  laidMet_of_run' 8 (by kernel_rfl) (by kernel_rfl)
theorem reads (os : Os) {H : Type} (enc : TypeId × Value → H) : ∃ places, DataW.whole enc Tryz.prog ((World.holding Tryz.prog os ⟨#[], #[], []⟩).forCall (fun _ _ => 0) ⟨#[], #[.agg #[.slice none 0 0, .slice none 0 0, .slice none 0 0, .slice none 0 0]], []⟩).memory Tryz.f4.params.toList Rows.mutexNogoodsSpec.vars false (#[.agg #[.slice none 0 0, .slice none 0 0, .slice none 0 0, .slice none 0 0]] : Array Value).toList 8 = some ([.agg [.nil, .nil, .nil, .nil]], [], places) :=
  ⟨[], by kernel_rfl⟩

set_option maxRecDepth 100000 in
theorem lifted (os : Os) (started : os.Started) (H : Type) (enc : TypeId × Value → H) (F : Stop.Interp) :
    ReturnsInHanded {} Tryz.checked os 4 .any ((OpenSpec.ofChange Rows.mutexNogoodsSpec).preRow enc Tryz.prog Tryz.f4 Rows.mutexNogoodsRow.domain false Rows.mutexNogoodsRow.laid) (((OpenSpec.ofChange Rows.mutexNogoodsSpec).at F).post enc Tryz.prog Tryz.f4 false true false false) := by
  obtain ⟨places, hx⟩ := reads os enc
  refine returnsInHanded_of_row (C := Tryz.checked) (s := OpenSpec.ofChange Rows.mutexNogoodsSpec) own started (by kernel_rfl) Tryz.func4
    (witness_row_at (enc := enc) (C := Tryz.checked) false (World.holding Tryz.prog os ⟨#[], #[], []⟩) #[.agg #[.slice none 0 0, .slice none 0 0, .slice none 0 0, .slice none 0 0]] rfl (by kernel_rfl) (by kernel_rfl) (by kernel_rfl)
      (OpenSpec.preRow_of_cond 8 hx (by kernel_rfl) (fun k hk => by cases hk) (by kernel_rfl) (laid_met os))) ?_
  intro W base args ds gs before hval hW _ _ hsz _ _ _
  exact contract H enc W base args ds gs before hval hW hsz

theorem said : Rows.MutexNogoodsSaid :=
  OpenClaim.holds_of_cond 4 Tryz.f4 rfl rfl rfl rfl rfl rfl rfl ⟨rfl, rfl, rfl, rfl, rfl⟩ rfl rfl rfl rfl rfl (by kernel_rfl) Tryz.func4 (by kernel_rfl)
    (of_decide_eq_true (by kernel_rfl)) (by unfold Func.isWrapper; first | (rw [if_pos (by decide +kernel)]; kernel_rfl) | (rw [if_neg (by decide +kernel)]; exact ⟨rfl, rfl⟩))
    (fun os started H enc _ F => by rw [OpenClaim.pre_eq_preRow]; exact lifted os started H enc F)
end Go.Proofs.YtinnphmnhmdcgaaGreat.rowNogoods
