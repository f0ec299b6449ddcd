/- stratagemlaw16.DatalogSolves returns true for every input. No condition beyond the card's own. -/
import Derived.Test.YtflgpccacloadaaDoorB5
import Derived.Test.YtflgpccacloadaaDoorB2
import Derived.Test.YtflgpccacloadaaDoorCards
import Derived.Test.YtflgpccacloadaaDoorTie
import Derived.Test.YtflgpccacloadaaDoorB1
import Derived.WalkKit
import Derived.ProofKit
import Derived.OpenShut
import Derived.Deep.DeepHandedRow
import Derived.Lib.LaidTab
import Derived.Lib.ItoaNum
set_option linter.unusedVariables false
set_option linter.unusedSectionVars false
set_option linter.unusedSimpArgs false
/- Plain law: the reference's comparison, membership and insertion of atoms. -/
namespace Go.Proofs.YtflgpccacloadaaDoor.Am
open Go.RowKit
def argC : List ByteArray → List ByteArray → Int
  | x :: r, y :: q => if strC x y < 0 then -1 else if x = y then argC r q else 1
  | a, b => (a.length : Int) - b.length
theorem argC_sign : ∀ a b, (argC a b < 0 ↔ lexC strC a b < 0) ∧ (argC a b = 0 ↔ lexC strC a b = 0)
  | [], [] => by simp [argC, lexC]
  | [], y :: q => by simp [argC, lexC]; omega
  | x :: r, [] => by simp [argC, lexC]; omega
  | x :: r, y :: q => by
    rw [argC, lexC]
    by_cases h : strC x y < 0
    · rw [if_pos h, if_neg (by omega)]
      exact ⟨⟨fun _ => h, fun _ => by omega⟩, ⟨fun e => by omega, fun e => by omega⟩⟩
    · rw [if_neg h]
      by_cases e : x = y
      · rw [if_pos e, if_pos ((strC_cmp.eq x y).2 e)]
        exact argC_sign r q
      · have h0 : ¬ strC x y = 0 := fun q => e ((strC_cmp.eq x y).1 q)
        rw [if_neg e, if_neg h0]
        exact ⟨⟨fun e => by omega, fun e => by omega⟩, ⟨fun e => by omega, fun e => by omega⟩⟩
def refC (a b : GAtom) : Int := if a.Name = b.Name then argC a.Args b.Args else if strC a.Name b.Name < 0 then -1 else 1
theorem refC_sign (a b : GAtom) : (refC a b < 0 ↔ atomC a b < 0) ∧ (refC a b = 0 ↔ a = b) := by
  rw [← atomC_cmp.eq a b, atomC_def]
  unfold refC
  by_cases e : a.Name = b.Name
  · rw [if_pos e, if_pos ((strC_cmp.eq _ _).2 e)]
    exact argC_sign _ _
  · have h0 : ¬ strC a.Name b.Name = 0 := fun q => e ((strC_cmp.eq _ _).1 q)
    rw [if_neg e, if_neg h0]
    by_cases h : strC a.Name b.Name < 0
    · rw [if_pos h]
      exact ⟨⟨fun _ => h, fun _ => by omega⟩, ⟨fun e => by omega, fun e => by omega⟩⟩
    · rw [if_neg h]
      exact ⟨⟨fun e => by omega, fun e => by omega⟩, ⟨fun e => by omega, fun e => by omega⟩⟩
theorem cmp_loop (a b : GAtom) (ha : a.Args.length ≤ 4611686018427387904) (hb : b.Args.length ≤ 4611686018427387904) : ∀ (k i : Nat), a.Args.length + 1 ≤ i + k → i ≤ a.Args.length → i ≤ b.Args.length →
    ob1 (M_r10_Compare_L1 a b k (i : Int) : Option (Unit ⊕ Int)) (osum (fun _ => some (IntKind.i64.wrap (((a.Args.map cS).length : Int) - ((b.Args.map cS).length : Int)))) (fun r19 => some r19)) = some (argC (a.Args.drop i) (b.Args.drop i)) := by
  intro k
  induction k with
  | zero => intro i h1 h2; omega
  | succ k ih =>
    intro i h1 h2 h3
    rw [M_r10_Compare_L1]
    by_cases h : i < a.Args.length
    · have hy := List.getElem?_eq_getElem h
      rw [show decide ((i : Int) < ((a.Args.map cS).length : Int)) = true by simp; omega]
      by_cases h' : i < b.Args.length
      · have hz := List.getElem?_eq_getElem h'
        rw [show decide ((i : Int) < ((b.Args.map cS).length : Int)) = true by simp; omega]
        show ob1 (ix a.Args (i : Int) _) _ = _
        rw [ix_at hy, ix_at hz, less_str, sel_dec, dropC hy, dropC hz, argC]
        by_cases e : strC a.Args[i] b.Args[i] < 0
        · rw [if_pos e, if_pos e]; rfl
        · rw [if_neg e, if_neg e, ix_at hy, ix_at hz, beq_bl]
          by_cases e2 : a.Args[i] = b.Args[i]
          · rw [if_pos e2, decide_eq_true e2, Bool.or_true, wrap_eq (by omega) (by omega)]
            exact ih (i + 1) (by omega) (by omega) (by omega)
          · rw [if_neg e2, decide_eq_false e2, less_str, decide_eq_false e]; rfl
      · rw [show decide ((i : Int) < ((b.Args.map cS).length : Int)) = false by simp; omega]
        show some (IntKind.i64.wrap _) = _
        rw [List.drop_of_length_le (show b.Args.length ≤ i by omega), dropC hy, argC, List.length_map, List.length_map, wrap_eq (by omega) (by omega)]
        · simp only [List.length_cons, List.length_drop, List.length_nil]
          exact congrArg some (by omega)
        · intro x r y q _ h; cases h
    · rw [show decide ((i : Int) < ((a.Args.map cS).length : Int)) = false by simp; omega]
      show some (IntKind.i64.wrap _) = _
      rw [List.drop_of_length_le (show a.Args.length ≤ i by omega), argC, List.length_map, List.length_map, wrap_eq (by omega) (by omega)]
      · simp only [List.length_drop, List.length_nil]
        exact congrArg some (by omega)
      · intro x r y q h; cases h
theorem cmp_eq (g : Nat) (a b : GAtom) (ha : a.Args.length ≤ 4611686018427387904) (hb : b.Args.length ≤ 4611686018427387904) (hg : a.Args.length < g) : M_r10_Compare g a b = some (refC a b) := by
  unfold M_r10_Compare refC
  rw [beq_bl, sel_not, sel_dec, less_str]
  by_cases e : a.Name = b.Name
  · rw [if_pos e, if_pos e]
    have := cmp_loop a b ha hb g 0 (by omega) (Nat.zero_le _) (Nat.zero_le _)
    rw [List.drop_zero, List.drop_zero, show ((0 : Nat) : Int) = 0 from rfl] at this
    exact this
  · rw [if_neg e, if_neg e, sel_dec]
    by_cases h : strC a.Name b.Name < 0
    · rw [if_pos h, if_pos h]
    · rw [if_neg h, if_neg h]
/-- atoms of few arguments -/
def Few (g : Nat) (l : List GAtom) : Prop := ∀ a ∈ l, a.Args.length ≤ 1000000000 ∧ a.Args.length < g
theorem has10_loop (g : Nat) (l : List GAtom) (a : GAtom) (hl : l.length ≤ 4611686018427387904) (hf : Few g l) (ha : a.Args.length ≤ 1000000000) : ∀ (k i : Nat), l.length + 1 ≤ i + k → i ≤ l.length → M_r10_Has_L1 l a g k (i : Int) = some (decide (a ∈ l.drop i)) := by
  intro k
  induction k with
  | zero => intro i h1 h2; omega
  | succ k ih =>
    intro i h1 h2
    rw [M_r10_Has_L1]
    by_cases h : i < l.length
    · have hy := List.getElem?_eq_getElem h
      have hm := hf _ (List.getElem_mem h)
      rw [show decide ((i : Int) < ((l.map cGAtom).length : Int)) = true by simp; omega]
      show ix l (i : Int) _ = _
      rw [ix_at hy, cmp_eq g _ _ (by omega) (by omega) hm.2, ob1_some, beq_int, sel_dec, dropC hy, wrap_eq (by omega) (by omega)]
      by_cases e : refC l[i] a = 0
      · rw [if_pos e]
        exact congrArg some (decide_eq_true (List.mem_cons.2 (.inl ((refC_sign _ _).2.1 e).symm))).symm
      · rw [if_neg e]
        have := ih (i + 1) (by omega) (by omega)
        rw [show ((i + 1 : Nat) : Int) = (i : Int) + 1 from rfl] at this
        rw [this]
        refine congrArg some (decide_eq_decide.2 ⟨fun q => List.mem_cons_of_mem _ q, fun q => ?_⟩)
        rcases List.mem_cons.1 q with q | q
        · exact absurd ((refC_sign _ _).2.2 q.symm) e
        · exact q
    · rw [show decide ((i : Int) < ((l.map cGAtom).length : Int)) = false by simp; omega]
      rw [List.drop_of_length_le (by omega)]
      rfl
theorem has10_eq (g : Nat) (l : List GAtom) (a : GAtom) (hl : l.length ≤ 4611686018427387904) (hf : Few g l) (ha : a.Args.length ≤ 1000000000) (hg : l.length < g) : M_r10_Has g l a = some (decide (a ∈ l)) := by
  unfold M_r10_Has
  have := has10_loop g l a hl hf ha g 0 (by omega) (Nat.zero_le _)
  rw [List.drop_zero] at this
  exact this
def insA (a : GAtom) : List GAtom → List GAtom
  | [] => [a]
  | x :: r => if atomC x a < 0 then x :: insA a r else a :: x :: r
def frt (a : GAtom) : List GAtom → Nat
  | [] => 0
  | x :: r => if atomC x a < 0 then frt a r + 1 else 0
theorem frt_le (a : GAtom) : ∀ l, frt a l ≤ l.length
  | [] => Nat.le_refl _
  | x :: r => by
    rw [frt]
    split
    · have := frt_le a r; simp only [List.length_cons]; omega
    · exact Nat.zero_le _
theorem insA_eq (a : GAtom) : ∀ l, insA a l = (l.take (frt a l) ++ [a]) ++ l.drop (frt a l)
  | [] => rfl
  | x :: r => by
    rw [insA, frt]
    split
    · rw [List.take_succ_cons, List.drop_succ_cons, insA_eq a r]; rfl
    · rfl
theorem add_loop (g : Nat) (l : List GAtom) (a : GAtom) (hl : (l.length + 1) * 40 ≤ 140737488355328) (hf : Few g l) (ha : a.Args.length ≤ 1000000000) : ∀ (k i : Nat), l.length + 1 ≤ i + k → i ≤ l.length →
    M_r10_Add_L1 l a g k (i : Int) (l.take i) = some (((i + frt a (l.drop i) : Nat) : Int), l.take (i + frt a (l.drop i))) := by
  intro k
  induction k with
  | zero => intro i h1 h2; omega
  | succ k ih =>
    intro i h1 h2
    rw [M_r10_Add_L1]
    by_cases h : i < l.length
    · have hy := List.getElem?_eq_getElem h
      have hm := hf _ (List.getElem_mem h)
      rw [show decide ((i : Int) < ((l.map cGAtom).length : Int)) = true by simp; omega]
      show ix l (i : Int) _ = _
      rw [ix_at hy, cmp_eq g _ _ (by omega) (by omega) hm.2, ob1_some, sel_dec, dropC hy, frt]
      by_cases e : refC l[i] a < 0
      · rw [if_pos e, if_pos ((refC_sign _ _).1.1 e), ix_at hy]
        refine grd_mk (by rw [List.length_take]; omega) ?_
        rw [wrap_eq (by omega) (by omega)]
        have := ih (i + 1) (by omega) (by omega)
        rw [take_at hy, show i + 1 + frt a (l.drop (i + 1)) = i + (frt a (l.drop (i + 1)) + 1) by omega] at this
        exact this
      · rw [if_neg e, if_neg (fun q => e ((refC_sign _ _).1.2 q))]
        rfl
    · rw [show decide ((i : Int) < ((l.map cGAtom).length : Int)) = false by simp; omega]
      rw [List.drop_of_length_le (by omega)]
      rfl
def addA (l : List GAtom) (a : GAtom) : List GAtom := if a ∈ l then l else insA a l
theorem add_eq (g : Nat) (l : List GAtom) (a : GAtom) (hl : (l.length + 1) * 40 ≤ 140737488355328) (hf : Few g l) (ha : a.Args.length ≤ 1000000000) (hg : l.length < g) : M_r10_Add g l a = some (addA l a) := by
  unfold M_r10_Add addA
  rw [has10_eq g l a (by omega) hf ha hg, ob1_some, sel_dec]
  by_cases e : a ∈ l
  · rw [if_pos e, if_pos e]
  · rw [if_neg e, if_neg e]
    have h1 := add_loop g l a hl hf ha g 0 (by omega) (Nat.zero_le _)
    rw [List.take_zero, List.drop_zero, Nat.zero_add, show ((0 : Nat) : Int) = 0 from rfl] at h1
    rw [h1, ob1_some, insA_eq]
    have hfl := frt_le a l
    have hn : (l.take (frt a l)).length = frt a l := by rw [List.length_take]; omega
    refine grd_mk (by rw [hn]; omega) (grd_mk (by omega) (grd_mk (by rw [List.length_map, Int.toNat_natCast]; exact hfl) ?_))
    rw [List.length_map, List.take_length, Int.toNat_natCast]
    refine grd_mk (by rw [hn, List.length_drop]; omega) (grd_mk ?_ rfl)
    simp only [List.length_append, List.length_drop, hn, List.length_cons, List.length_nil]
    omega
theorem insA_mem (a z : GAtom) : ∀ l, z ∈ insA a l ↔ z = a ∨ z ∈ l
  | [] => by simp [insA]
  | x :: r => by
    rw [insA]
    split
    · rw [List.mem_cons, insA_mem a z r, List.mem_cons]
      constructor
      · rintro (h | h | h)
        · exact .inr (.inl h)
        · exact .inl h
        · exact .inr (.inr h)
      · rintro (h | h | h)
        · exact .inr (.inl h)
        · exact .inl h
        · exact .inr (.inr h)
    · rw [List.mem_cons]
theorem insA_str (a : GAtom) : ∀ l, StrA l → a ∉ l → StrA (insA a l)
  | [], _, _ => List.pairwise_singleton _ _
  | x :: r, h, hn => by
    obtain ⟨h1, h2⟩ := List.pairwise_cons.1 h
    rw [insA]
    split
    · rename_i hlt
      refine List.pairwise_cons.2 ⟨fun y hy => ?_, insA_str a r h2 (fun q => hn (List.mem_cons_of_mem _ q))⟩
      rcases (insA_mem a y r).1 hy with e | e
      · rw [e]; exact hlt
      · exact h1 y e
    · rename_i hlt
      have hx : atomC a x < 0 := by
        have h3 := atomC_cmp.total x a
        have h4 : ¬ atomC x a = 0 := fun q => hn (by rw [← (atomC_cmp.eq x a).1 q]; exact List.mem_cons_self ..)
        omega
      refine List.pairwise_cons.2 ⟨fun y hy => ?_, h⟩
      rcases List.mem_cons.1 hy with e | e
      · rw [e]; exact hx
      · exact atomC_cmp.trans _ _ _ hx (h1 y e)
theorem insA_len (a : GAtom) : ∀ l, (insA a l).length = l.length + 1
  | [] => rfl
  | x :: r => by
    rw [insA]
    split
    · simp only [List.length_cons]; rw [insA_len a r]
    · rfl
theorem addA_spec {l : List GAtom} (h : StrA l) (a : GAtom) : StrA (addA l a) ∧ (∀ z, z ∈ addA l a ↔ z ∈ l ∨ z = a) ∧ (addA l a).length ≤ l.length + 1 := by
  unfold addA
  split
  · rename_i e
    exact ⟨h, fun z => ⟨.inl, fun q => q.elim id (fun q => q ▸ e)⟩, by omega⟩
  · rename_i e
    exact ⟨insA_str a l h e, fun z => by rw [insA_mem]; exact Or.comm, by rw [insA_len]; omega⟩
theorem fold_add : ∀ (x l : List GAtom), StrA l → StrA (x.foldl addA l) ∧ (∀ z, z ∈ x.foldl addA l ↔ z ∈ l ∨ z ∈ x) ∧ (x.foldl addA l).length ≤ l.length + x.length
  | [], l, h => ⟨h, fun z => by simp, by simp⟩
  | a :: r, l, h => by
    obtain ⟨h1, h2, h3⟩ := addA_spec h a
    obtain ⟨h4, h5, h6⟩ := fold_add r (addA l a) h1
    refine ⟨h4, fun z => ?_, by rw [List.foldl_cons]; simp only [List.length_cons]; omega⟩
    rw [List.foldl_cons, h5, h2, List.mem_cons, or_assoc]
theorem fold_setA {l : List GAtom} (h : StrA l) (x : List GAtom) : x.foldl addA l = setA (l ++ x) := by
  obtain ⟨h1, h2, _⟩ := fold_add x l h
  exact strA_unique h1 (setA_spec _).1 (fun z => by rw [h2, (setA_spec _).2.1, List.mem_append])
theorem same_loop (g : Nat) (l : List GAtom) (hl : l.length ≤ 4611686018427387904) (hf : Few g l) : ∀ (k i : Nat), l.length + 1 ≤ i + k → i ≤ l.length → M_r10_SameAtoms_L1 l l g k (i : Int) = some true := by
  intro k
  induction k with
  | zero => intro i h1 h2; omega
  | succ k ih =>
    intro i h1 h2
    rw [M_r10_SameAtoms_L1]
    by_cases h : i < l.length
    · have hy := List.getElem?_eq_getElem h
      have hm := hf _ (List.getElem_mem h)
      rw [show decide ((i : Int) < ((l.map cGAtom).length : Int)) = true by simp; omega]
      show ix l (i : Int) _ = _
      rw [ix_at hy, ix_at hy, cmp_eq g _ _ (by omega) (by omega) hm.2, ob1_some, (refC_sign _ _).2.2 rfl, wrap_eq (by omega) (by omega)]
      exact ih (i + 1) (by omega) (by omega)
    · rw [show decide ((i : Int) < ((l.map cGAtom).length : Int)) = false by simp; omega]
      rfl
theorem sameAtoms_eq (g : Nat) (l : List GAtom) (hl : l.length ≤ 4611686018427387904) (hf : Few g l) (hg : l.length < g) : M_r10_SameAtoms g l l = some true := by
  unfold M_r10_SameAtoms
  rw [show (((l.map cGAtom).length : Int) != ((l.map cGAtom).length : Int)) = false by simp]
  exact same_loop g l hl hf g 0 (by omega) (Nat.zero_le _)
end Go.Proofs.YtflgpccacloadaaDoor.Am
/- Plain law: the reference's bindings. -/
namespace Go.Proofs.YtflgpccacloadaaDoor.Am
open Go.RowKit
def rep (b : Bd) (s : ByteArray) : ByteArray := (getM b s).getD s
theorem rep_loop (s : ByteArray) (vs cs : List ByteArray) (hv : vs.length ≤ 4611686018427387904) : ∀ (k i : Nat), vs.length + 1 ≤ i + k → i ≤ vs.length → M_r16_Replace_L1 s vs cs k (i : Int) = some (rep ((vs.drop i).zip (cs.drop i)) s) := by
  intro k
  induction k with
  | zero => intro i h1 h2; omega
  | succ k ih =>
    intro i h1 h2
    rw [M_r16_Replace_L1]
    by_cases h : i < vs.length
    · have hy := List.getElem?_eq_getElem h
      rw [show decide ((i : Int) < ((vs.map cS).length : Int)) = true by simp; omega]
      by_cases h' : i < cs.length
      · have hz := List.getElem?_eq_getElem h'
        rw [show decide ((i : Int) < ((cs.map cS).length : Int)) = true by simp; omega]
        show ix vs (i : Int) _ = _
        rw [ix_at hy, beq_bl, sel_dec, dropC hy, dropC hz, List.zip_cons_cons, rep, getM]
        by_cases e : vs[i] = s
        · rw [if_pos e, if_pos e, ix_at hz]; rfl
        · rw [if_neg e, if_neg e, wrap_eq (by omega) (by omega)]
          exact ih (i + 1) (by omega) (by omega)
      · rw [show decide ((i : Int) < ((cs.map cS).length : Int)) = false by simp; omega]
        rw [List.drop_of_length_le (show cs.length ≤ i by omega), List.zip_nil_right]
        rfl
    · rw [show decide ((i : Int) < ((vs.map cS).length : Int)) = false by simp; omega]
      rw [List.drop_of_length_le (by omega)]
      rfl
theorem rep_eq (g : Nat) (s : ByteArray) (vs cs : List ByteArray) (hv : vs.length ≤ 4611686018427387904) (hg : vs.length < g) : M_r16_Replace g s vs cs = some (rep (vs.zip cs) s) := by
  unfold M_r16_Replace
  have := rep_loop s vs cs hv g 0 (by omega) (Nat.zero_le _)
  rw [List.drop_zero, List.drop_zero] at this
  exact this
def difF (b : Bd) (un : List (ByteArray × ByteArray)) : Bool := un.all (fun p => !decide (rep b p.1 = rep b p.2))
theorem rdif_loop (un : List (ByteArray × ByteArray)) (vs cs : List ByteArray) (g : Nat) (hv : vs.length ≤ 4611686018427387904) (hg : vs.length < g) (hu : un.length ≤ 4611686018427387904) : ∀ (k i : Nat), un.length + 1 ≤ i + k → i ≤ un.length → M_r16_differ_L1 un vs cs g k (i : Int) = some (difF (vs.zip cs) (un.drop i)) := by
  intro k
  induction k with
  | zero => intro i h1 h2; omega
  | succ k ih =>
    intro i h1 h2
    rw [M_r16_differ_L1]
    by_cases h : i < un.length
    · have hy := List.getElem?_eq_getElem h
      rw [show decide ((i : Int) < ((un.map cA2_cS).length : Int)) = true by simp; omega]
      show ix un (i : Int) _ = _
      rw [ix_at hy, rep_eq g _ vs cs hv hg, ob1_some, ix_at hy, rep_eq g _ vs cs hv hg, ob1_some, beq_bl, dropC hy, difF, List.all_cons, wrap_eq (by omega) (by omega)]
      cases decide (rep (vs.zip cs) un[i].1 = rep (vs.zip cs) un[i].2) with
      | true => rfl
      | false => exact ih (i + 1) (by omega) (by omega)
    · rw [show decide ((i : Int) < ((un.map cA2_cS).length : Int)) = false by simp; omega]
      rw [List.drop_of_length_le (by omega)]
      rfl
theorem rdif_eq (un : List (ByteArray × ByteArray)) (vs cs : List ByteArray) (g : Nat) (hv : vs.length ≤ 4611686018427387904) (hg : vs.length < g) (hu : un.length ≤ 4611686018427387904) (hg2 : un.length < g) : M_r16_differ g un vs cs = some (difF (vs.zip cs) un) := by
  unfold M_r16_differ
  have := rdif_loop un vs cs g hv hg hu g 0 (by omega) (Nat.zero_le _)
  rw [List.drop_zero] at this
  exact this
theorem addV_pre : ∀ (l K : List ByteArray), K <+: l.foldl addV K
  | [], K => List.prefix_refl _
  | s :: r, K => by
    rw [List.foldl_cons]
    refine List.IsPrefix.trans ?_ (addV_pre r (addV K s))
    unfold addV
    split
    · split
      · exact List.prefix_refl _
      · exact List.prefix_append _ _
    · exact List.prefix_refl _
theorem addV_ok : ∀ (l K : List ByteArray), K.Nodup → (∀ s ∈ K, isV s = true) → (l.foldl addV K).Nodup ∧ ∀ s ∈ l.foldl addV K, isV s = true
  | [], K, h1, h2 => ⟨h1, h2⟩
  | s :: r, K, h1, h2 => by
    rw [List.foldl_cons]
    unfold addV
    split
    · rename_i hv
      split
      · exact addV_ok r K h1 h2
      · rename_i hn
        refine addV_ok r _ (List.nodup_append.2 ⟨h1, by simp, fun x hx y hy e => ?_⟩) (fun x hx => ?_)
        · simp at hy; exact hn (by rw [← hy, ← e]; exact hx)
        · rcases List.mem_append.1 hx with e | e
          · exact h2 x e
          · rw [List.mem_singleton.1 e]; exact hv
    · exact addV_ok r K h1 h2
theorem zip_fst : ∀ (vs cs : List ByteArray), cs.length ≤ vs.length → (vs.zip cs).map Prod.fst = vs.take cs.length
  | _, [], _ => by simp
  | [], c :: cs, h => by simp at h
  | v :: vs, c :: cs, h => by
    rw [List.zip_cons_cons, List.map_cons, zip_fst vs cs (by simpa using h)]
    rfl
theorem zip_snd : ∀ (vs cs : List ByteArray), cs.length ≤ vs.length → (vs.zip cs).map Prod.snd = cs
  | _, [], _ => by simp
  | [], c :: cs, h => by simp at h
  | v :: vs, c :: cs, h => by
    rw [List.zip_cons_cons, List.map_cons, zip_snd vs cs (by simpa using h)]
theorem zip_snoc : ∀ (vs cs : List ByteArray) (s c : ByteArray), vs[cs.length]? = some s → vs.zip (cs ++ [c]) = vs.zip cs ++ [(s, c)]
  | [], cs, s, c, h => by simp at h
  | v :: vs, [], s, c, h => by simp at h; subst h; simp
  | v :: vs, x :: cs, s, c, h => by
    rw [List.cons_append, List.zip_cons_cons, List.zip_cons_cons, zip_snoc vs cs s c (by simpa using h)]
    rfl
theorem tB_rep {b : Bd} (hv : ∀ s ∈ b.map Prod.fst, isV s = true) {s x : ByteArray} (h : tB b s = some x) : rep b s = x := by
  unfold tB at h
  unfold rep
  split at h
  · rw [h]; rfl
  · rename_i hn
    rw [getM_key.2 (fun q => hn (hv s q))]
    exact Option.some.inj h
theorem fit_loop (a f : GAtom) (vs rest : List ByteArray) (g : Nat) (hn : vs.Nodup) (hV : ∀ s ∈ vs, isV s = true) (hg : vs.length < g) (hvl : vs.length * 16 ≤ 140737488355328) (hal : a.Args.length ≤ 4611686018427387904) (hlen : f.Args.length = a.Args.length) :
    ∀ (k i : Nat) (out : List ByteArray) (fr : List ByteArray), a.Args.length + 1 ≤ i + k → i ≤ a.Args.length → out.length ≤ vs.length → (a.Args.drop i ++ rest).foldl addV (vs.take out.length) = vs →
      M_r16_fit_L1 a f vs g k (i : Int) out = some (if (uni (vs.zip out) fr (a.Args.drop i) (f.Args.drop i)).2.1 = true then ((uni (vs.zip out) fr (a.Args.drop i) (f.Args.drop i)).2.2.map Prod.snd, true) else ([], false)) := by
  intro k
  induction k with
  | zero => intro i out fr h1 h2; omega
  | succ k ih =>
    intro i out fr h1 h2 h3 h4
    rw [M_r16_fit_L1]
    have hkeys := zip_fst vs out h3
    have hKV : ∀ s ∈ (vs.zip out).map Prod.fst, isV s = true := fun s hs => hV s (List.mem_of_mem_take (by rw [← hkeys]; exact hs))
    by_cases h : i < a.Args.length
    · have hy := List.getElem?_eq_getElem h
      have hz := List.getElem?_eq_getElem (show i < f.Args.length by omega)
      rw [show decide ((i : Int) < ((a.Args.map cS).length : Int)) = true by simp; omega]
      show ob1 _ _ = _
      rw [dropC hy, dropC hz, uni]
      rw [dropC hy, List.cons_append, List.foldl_cons] at h4
      have hw : IntKind.i64.wrap ((i : Int) + 1) = ((i + 1 : Nat) : Int) := wrap_eq (by omega) (by omega)
      cases ht : tB (vs.zip out) a.Args[i] with
      | none =>
        obtain ⟨hv, hgn⟩ := tB_none ht
        have hnk := getM_key.1 hgn
        rw [hkeys] at hnk
        rw [addV, if_pos hv, if_neg hnk] at h4
        have hpre := addV_pre (a.Args.drop (i + 1) ++ rest) (vs.take out.length ++ [a.Args[i]])
        rw [h4] at hpre
        have hlt : (vs.take out.length).length = out.length := by rw [List.length_take]; omega
        have hlen2 : out.length < vs.length := by
          have := hpre.length_le
          rw [List.length_append, hlt] at this
          simp at this
          omega
        have hat : vs[out.length]? = some a.Args[i] := by
          obtain ⟨t, ht2⟩ := hpre
          rw [← ht2, List.append_assoc, List.getElem?_append_right (by omega), hlt, Nat.sub_self]
          rfl
        rw [show decide (((out.length : Nat) : Int) < ((vs.map cS).length : Int)) = true by simp; omega]
        have e1 : (sel true (ix a.Args (i : Int) (fun y36 => ix vs ((out.length : Nat) : Int) (fun y37 => sel (y36.toList == y37.toList) (ix f.Args (i : Int) (fun y38 => grd ((out.length + 1) * 16 ≤ 140737488355328) (some (out ++ [y38])))) (some out)))) (some out) : Option (List ByteArray)) = some (out ++ [f.Args[i]]) := by
          show ix a.Args (i : Int) _ = _
          rw [ix_at hy, ix_at hat, beq_bl, decide_eq_true rfl]
          show ix f.Args (i : Int) _ = _
          rw [ix_at hz]
          exact grd_mk (by omega) rfl
        rw [e1, ob1_some, ix_at hy]
        refine grd_mk (by simp; omega) ?_
        rw [rep_eq g _ vs _ (by omega) hg, ob1_some, ix_at hz, zip_snoc vs out _ _ hat]
        have hset : setM (vs.zip out) a.Args[i] f.Args[i] = vs.zip out ++ [(a.Args[i], f.Args[i])] := setM_none (fun p hp e => (getM_key.1 hgn) (List.mem_map.2 ⟨p, hp, e⟩))
        have hrep : rep (vs.zip out ++ [(a.Args[i], f.Args[i])]) a.Args[i] = f.Args[i] := by
          unfold rep
          rw [← hset, getM_setM, if_pos rfl]
          rfl
        rw [hrep, beq_bl, decide_eq_true rfl, hw]
        show M_r16_fit_L1 a f vs g k _ _ = _
        have h5 := ih (i + 1) (out ++ [f.Args[i]]) (fr ++ [a.Args[i]]) (by omega) (by omega) (by simp; omega) (by
          rw [show (out ++ [f.Args[i]]).length = out.length + 1 by simp, List.take_add_one, hat]
          exact h4)
        rw [h5, zip_snoc vs out _ _ hat, hset]
      | some x =>
        have hnx : ∀ s, vs[out.length]? = some s → a.Args[i] = s → False := by
          intro s hs e
          have hvs : isV a.Args[i] = true := by rw [e]; exact hV s (List.mem_of_getElem? hs)
          unfold tB at ht
          rw [if_pos hvs] at ht
          have hmem : a.Args[i] ∈ vs.take out.length := by
            rw [← hkeys]
            exact Classical.byContradiction fun q => by rw [getM_key.2 q] at ht; cases ht
          obtain ⟨j, hj, hje⟩ := List.getElem_of_mem hmem
          rw [List.length_take] at hj
          rw [List.getElem_take] at hje
          obtain ⟨hl, hle⟩ := List.getElem?_eq_some_iff.1 hs
          have := (List.getElem_inj hn).1 (hje.trans (e.trans hle.symm))
          omega
        have e1 : (sel (decide (((out.length : Nat) : Int) < ((vs.map cS).length : Int))) (ix a.Args (i : Int) (fun y36 => ix vs ((out.length : Nat) : Int) (fun y37 => sel (y36.toList == y37.toList) (ix f.Args (i : Int) (fun y38 => grd ((out.length + 1) * 16 ≤ 140737488355328) (some (out ++ [y38])))) (some out)))) (some out) : Option (List ByteArray)) = some out := by
          by_cases hlt : out.length < vs.length
          · have hat := List.getElem?_eq_getElem hlt
            rw [show decide (((out.length : Nat) : Int) < ((vs.map cS).length : Int)) = true by simp; omega]
            show ix a.Args (i : Int) _ = _
            rw [ix_at hy, ix_at hat, beq_bl, decide_eq_false (fun q => hnx _ hat q)]
            rfl
          · rw [show decide (((out.length : Nat) : Int) < ((vs.map cS).length : Int)) = false by simp; omega]
            rfl
        rw [e1, ob1_some, ix_at hy]
        refine grd_mk (by omega) ?_
        rw [rep_eq g _ vs _ (by omega) hg, ob1_some, ix_at hz, tB_rep hKV ht, beq_bl, sel_not, sel_dec, hw]
        simp only []
        by_cases e : x = f.Args[i]
        · rw [if_pos e, if_pos e]
          refine ih (i + 1) out fr (by omega) (by omega) h3 ?_
          have : addV (vs.take out.length) a.Args[i] = vs.take out.length := by
            unfold addV
            split
            · rename_i hvs
              rw [if_pos]
              unfold tB at ht
              rw [if_pos hvs] at ht
              rw [← hkeys]
              exact Classical.byContradiction fun q => by rw [getM_key.2 q] at ht; cases ht
            · rfl
          rw [this] at h4
          exact h4
        · rw [if_neg e, if_neg e, if_neg (fun q => Bool.noConfusion q)]
    · rw [show decide ((i : Int) < ((a.Args.map cS).length : Int)) = false by simp; omega]
      rw [List.drop_of_length_le (show a.Args.length ≤ i by omega), uni, if_pos rfl]
      · refine grd_mk (by omega) ?_
        rw [zip_snd vs out h3]
      · intro s r c q h; cases h
theorem fit_eq (g : Nat) (a f : GAtom) (vs rest cs : List ByteArray) (hn : vs.Nodup) (hV : ∀ s ∈ vs, isV s = true) (hg : vs.length < g) (hvl : vs.length * 16 ≤ 140737488355328) (hal : a.Args.length ≤ 1000000000) (hfl : f.Args.length ≤ 1000000000) (hg2 : a.Args.length < g) (h3 : cs.length ≤ vs.length) (h4 : (a.Args ++ rest).foldl addV (vs.take cs.length) = vs) :
    M_r16_fit g a f vs cs = some (if f.Name = a.Name ∧ f.Args.length = a.Args.length ∧ (uni (vs.zip cs) [] a.Args f.Args).2.1 = true then ((uni (vs.zip cs) [] a.Args f.Args).2.2.map Prod.snd, true) else ([], false)) := by
  unfold M_r16_fit
  rw [beq_bl, sel_not, sel_dec]
  by_cases e : a.Name = f.Name
  · rw [if_pos e, show (((a.Args.map cS).length : Int) != ((f.Args.map cS).length : Int)) = !decide (f.Args.length = a.Args.length) by rw [bne, beq_int, List.length_map, List.length_map]; exact congrArg not (decide_eq_decide.2 (by omega)), sel_not, sel_dec]
    by_cases e2 : f.Args.length = a.Args.length
    · rw [if_pos e2]
      show grd _ (M_r16_fit_L1 a f vs g g 0 cs) = _
      refine grd_mk (by omega) ?_
      have := fit_loop a f vs rest g hn hV hg hvl (by omega) e2 g 0 cs [] (by omega) (Nat.zero_le _) h3 (by rw [List.drop_zero]; exact h4)
      rw [List.drop_zero, List.drop_zero, show ((0 : Nat) : Int) = 0 from rfl] at this
      rw [this]
      by_cases e3 : (uni (vs.zip cs) [] a.Args f.Args).2.1 = true
      · rw [if_pos e3, if_pos ⟨e.symm, e2, e3⟩]
      · rw [if_neg e3, if_neg (fun q => e3 q.2.2)]
    · rw [if_neg e2, if_neg (fun q => e2 q.2.1)]; rfl
  · rw [if_neg e, if_neg (fun q => e q.1.symm)]; rfl
/-- the reference's search -/
def refB (S : GSet) (un : List (ByteArray × ByteArray)) : List GAtom → Bd → List Bd
  | [], b => if difF b un = true then [b] else []
  | a :: r, b => S.flatMap (fun f => if f.Name = a.Name ∧ f.Args.length = a.Args.length ∧ (uni b [] a.Args f.Args).2.1 = true then refB S un r (uni b [] a.Args f.Args).2.2 else [])
theorem refB_len (S : GSet) (un : List (ByteArray × ByteArray)) : ∀ (body : List GAtom) (b : Bd), (refB S un body b).length ≤ S.length ^ body.length
  | [], b => by
    rw [refB]
    split <;> simp
  | a :: r, b => by
    rw [refB, List.length_cons, Nat.pow_succ, Nat.mul_comm]
    refine flat_le _ _ S (fun f _ => ?_)
    split
    · exact refB_len S un r _
    · exact Nat.zero_le _
theorem drop_flat {α β : Type} (f : α → List β) {l : List α} {i : Nat} {y : α} (h : l[i]? = some y) : (l.drop i).flatMap f = f y ++ (l.drop (i + 1)).flatMap f := by
  rw [dropC h, List.flatMap_cons]
section
variable (S : GSet) (body : List GAtom) (un : List (ByteArray × ByteArray)) (vs : List ByteArray) (G : Nat)
  (hn : vs.Nodup) (hV : ∀ s ∈ vs, isV s = true) (hvl : vs.length * 16 ≤ 140737488355328) (hgv : vs.length < G) (hgu : un.length < G) (hgS : S.length < G) (hgA : Few G body) (hfS : Few G S) (hG : G ≤ 4611686018427387904) (hbl : body.length < G)
  (hpow : ∀ m, m ≤ body.length → S.length ^ m * 24 ≤ 140737488355328)
include hn hV hvl hgv hgu hgS hgA hfS hG hbl hpow
theorem bind_eq : ∀ (n at' : Nat), body.length = at' + n → ∀ (g : Nat) (cs : List ByteArray), G + n < g → cs.length ≤ vs.length → ((body.drop at').flatMap (·.Args)).foldl addV (vs.take cs.length) = vs →
    M_r16_bindings g S body un vs cs (at' : Int) = some ((refB S un (body.drop at') (vs.zip cs)).map (·.map Prod.snd)) := by
  intro n
  induction n with
  | zero =>
    intro at' hat g cs hg h1 h2
    obtain ⟨g, rfl⟩ : ∃ g', g = g' + 1 := ⟨g - 1, by omega⟩
    rw [M_r16_bindings, show ((at' : Int) == ((body.map cGAtom).length : Int)) = true by simp; omega]
    show ob1 (M_r16_differ g un vs cs) _ = _
    rw [rdif_eq un vs cs g (by omega) (by omega) (by omega) (by omega), ob1_some, List.drop_of_length_le (by omega), refB]
    cases difF (vs.zip cs) un with
    | true =>
      rw [if_pos rfl]
      show some [cs] = some [(vs.zip cs).map Prod.snd]
      rw [zip_snd vs cs h1]
    | false => rw [if_neg (by decide)]; rfl
  | succ n ih =>
    intro at' hat g cs hg h1 h2
    obtain ⟨g, rfl⟩ : ∃ g', g = g' + 1 := ⟨g - 1, by omega⟩
    have hlt : at' < body.length := by omega
    have hy := List.getElem?_eq_getElem hlt
    generalize hya : body[at'] = a at hy
    have hma : a ∈ body := by rw [← hya]; exact List.getElem_mem hlt
    rw [M_r16_bindings, show ((at' : Int) == ((body.map cGAtom).length : Int)) = false by simp; omega]
    show M_r16_bindings_L1 S body un vs cs (at' : Int) g (M_r16_bindings g) g 0 [] = _
    rw [dropC hy, List.flatMap_cons] at h2
    have key : ∀ (k i : Nat) (acc : List (List ByteArray)), S.length + 1 ≤ i + k → i ≤ S.length → acc.length ≤ i * S.length ^ n →
        M_r16_bindings_L1 S body un vs cs (at' : Int) g (M_r16_bindings g) k (i : Int) acc = some (acc ++ (((S.drop i).flatMap (fun f => if f.Name = a.Name ∧ f.Args.length = a.Args.length ∧ (uni (vs.zip cs) [] a.Args f.Args).2.1 = true then refB S un (body.drop (at' + 1)) (uni (vs.zip cs) [] a.Args f.Args).2.2 else [])).map (·.map Prod.snd))) := by
      intro k
      induction k with
      | zero => intro i acc h3 h4; omega
      | succ k ih2 =>
        intro i acc h3 h4 h5
        rw [M_r16_bindings_L1]
        have hp := hpow (n + 1) (by omega)
        rw [Nat.pow_succ, Nat.mul_comm (S.length ^ n)] at hp
        by_cases h : i < S.length
        · have hz := List.getElem?_eq_getElem h
          have hmS := hfS _ (List.getElem_mem h)
          generalize hzf : S[i] = f at hz hmS
          rw [show decide ((i : Int) < ((S.map cGAtom).length : Int)) = true by simp; omega]
          show ix body (at' : Int) _ = _
          have hmul : (i + 1) * S.length ^ n ≤ S.length * S.length ^ n := Nat.mul_le_mul_right _ h
          rw [Nat.succ_mul] at hmul
          have hfa := hgA a hma
          rw [ix_at hy, ix_at hz, fit_eq g a f vs ((body.drop (at' + 1)).flatMap (·.Args)) cs hn hV (by omega) hvl hfa.1 hmS.1 (by omega) h1 h2, drop_flat _ hz]
          by_cases e : f.Name = a.Name ∧ f.Args.length = a.Args.length ∧ (uni (vs.zip cs) [] a.Args f.Args).2.1 = true
          · rw [if_pos e, if_pos e]
            have hkeys : (uni (vs.zip cs) [] a.Args f.Args).2.2.map Prod.fst = a.Args.foldl addV (vs.take cs.length) := by
              rw [uni_keys _ _ _ _ e.2.1.symm e.2.2, zip_fst vs cs h1]
            generalize hb : (uni (vs.zip cs) [] a.Args f.Args).2.2 = b' at hkeys
            rw [List.foldl_append, ← hkeys] at h2
            have hpre := addV_pre ((body.drop (at' + 1)).flatMap (·.Args)) (b'.map Prod.fst)
            rw [h2] at hpre
            have hl2 : (b'.map Prod.snd).length = (b'.map Prod.fst).length := by rw [List.length_map, List.length_map]
            have htake : vs.take (b'.map Prod.snd).length = b'.map Prod.fst := by
              rw [hl2]; exact (List.prefix_iff_eq_take.1 hpre).symm
            have hle : (b'.map Prod.snd).length ≤ vs.length := by rw [hl2]; exact hpre.length_le
            have hzip : vs.zip (b'.map Prod.snd) = b' := zip_eq (by rw [zip_fst _ _ hle, htake]) (by rw [zip_snd _ _ hle])
            have hrec := ih (at' + 1) (by omega) g (b'.map Prod.snd) (by omega) hle (by rw [htake]; exact h2)
            rw [hzip] at hrec
            have hrl := refB_len S un (body.drop (at' + 1)) b'
            rw [List.length_drop, show body.length - (at' + 1) = n by omega] at hrl
            show ob1 (M_r16_bindings g S body un vs (b'.map Prod.snd) (IntKind.i64.wrap ((at' : Int) + 1))) _ = _
            rw [wrap_eq (by omega) (by omega), show (at' : Int) + 1 = ((at' + 1 : Nat) : Int) from rfl, hrec, ob1_some]
            refine grd_mk (by rw [List.length_map]; omega) ?_
            rw [wrap_eq (by omega) (by omega)]
            have h6 := ih2 (i + 1) (acc ++ (refB S un (body.drop (at' + 1)) b').map (·.map Prod.snd)) (by omega) (by omega) (by rw [List.length_append, List.length_map, Nat.succ_mul]; omega)
            rw [show ((i + 1 : Nat) : Int) = (i : Int) + 1 from rfl] at h6
            rw [h6, List.map_append, List.append_assoc]
          · rw [if_neg e, if_neg e, List.nil_append]
            show M_r16_bindings_L1 _ _ _ _ _ _ _ _ k _ _ = _
            rw [wrap_eq (by omega) (by omega)]
            exact ih2 (i + 1) acc (by omega) (by omega) (by rw [Nat.succ_mul]; omega)
        · rw [show decide ((i : Int) < ((S.map cGAtom).length : Int)) = false by simp; omega]
          rw [List.drop_of_length_le (show S.length ≤ i by omega), List.flatMap_nil, List.map_nil, List.append_nil]
          have : acc.length ≤ S.length * S.length ^ n := by rw [show i = S.length by omega] at h5; exact h5
          exact grd_mk (by omega) rfl
    have := key g 0 [] (by omega) (Nat.zero_le _) (by simp)
    rw [List.drop_zero, List.nil_append, show ((0 : Nat) : Int) = 0 from rfl] at this
    rw [this, dropC hy, refB]
end
/-- both searches find the same -/
theorem tB_mono {b b' : Bd} (h : ∀ s x, getM b s = some x → getM b' s = some x) {s x : ByteArray} (ht : tB b s = some x) : tB b' s = some x := by
  unfold tB at ht ⊢
  split
  · rename_i hv; rw [if_pos hv] at ht; exact h s x ht
  · rename_i hv; rw [if_neg hv] at ht; exact ht
theorem uni_mono : ∀ (xs cs : List ByteArray) (b : Bd) (fr : List ByteArray) (s x : ByteArray), getM b s = some x → getM (uni b fr xs cs).2.2 s = some x
  | [], cs, b, fr, s, x, h => by rw [uni]; exact h; simp
  | t :: r, [], b, fr, s, x, h => by rw [uni]; exact h; simp
  | t :: r, c :: q, b, fr, s, x, h => by
    rw [uni]
    cases ht : tB b t with
    | none =>
      refine uni_mono r q _ _ s x ?_
      rw [getM_setM, if_neg (fun e => by rw [← e, (tB_none ht).2] at h; cases h)]
      exact h
    | some y =>
      simp only []
      split
      · exact uni_mono r q _ _ s x h
      · exact h
def Bad (b : Bd) (un : List (ByteArray × ByteArray)) : Prop := ∃ p ∈ un, ∃ x, tB b p.1 = some x ∧ tB b p.2 = some x
theorem bad_of {b : Bd} {un : List (ByteArray × ByteArray)} (h : dif b un = false) : Bad b un := by
  unfold dif at h
  obtain ⟨p, hp, hd⟩ := List.all_eq_false.1 h
  unfold difP at hd
  split at hd
  · rename_i x y h1 h2
    simp at hd
    exact ⟨p, hp, x, h1, by rw [hd]; exact h2⟩
  · simp at hd
theorem uni_allV {xs cs : List ByteArray} {b : Bd} {fr : List ByteArray} (hl : xs.length = cs.length) (hu : (uni b fr xs cs).2.1 = true) (hn : (b.map Prod.fst).Nodup) (hV : ∀ s ∈ b.map Prod.fst, isV s = true) : ((uni b fr xs cs).2.2.map Prod.fst).Nodup ∧ ∀ s ∈ (uni b fr xs cs).2.2.map Prod.fst, isV s = true := by
  rw [uni_keys _ _ _ _ hl hu]
  exact addV_ok xs _ hn hV
theorem refB_bad {S : GSet} {un : List (ByteArray × ByteArray)} : ∀ (body : List GAtom) (b : Bd), (b.map Prod.fst).Nodup → (∀ s ∈ b.map Prod.fst, isV s = true) → Bad b un → refB S un body b = []
  | [], b, _, hV, ⟨p, hp, x, h1, h2⟩ => by
    rw [refB, if_neg]
    intro h
    have := List.all_eq_true.1 h p hp
    rw [tB_rep hV h1, tB_rep hV h2] at this
    simp at this
  | a :: r, b, hn, hV, hb => by
    rw [refB]
    refine List.flatMap_eq_nil_iff.2 fun f _ => ?_
    split
    · rename_i e
      obtain ⟨h1, h2⟩ := uni_allV (fr := []) e.2.1.symm e.2.2 hn hV
      obtain ⟨p, hp, x, h3, h4⟩ := hb
      exact refB_bad r _ h1 h2 ⟨p, hp, x, tB_mono (uni_mono _ _ _ _) h3, tB_mono (uni_mono _ _ _ _) h4⟩
    · rfl
theorem filter_flat {α β : Type} (p : α → Bool) (f g : α → List β) (h1 : ∀ x, p x = true → f x = g x) (h2 : ∀ x, p x = false → g x = []) : ∀ l : List α, (l.filter p).flatMap f = l.flatMap g
  | [] => rfl
  | x :: r => by
    rw [List.filter_cons, List.flatMap_cons]
    cases hp : p x with
    | true => rw [if_pos rfl, List.flatMap_cons, h1 x hp, filter_flat p f g h1 h2 r]
    | false => rw [if_neg (by decide), h2 x hp, filter_flat p f g h1 h2 r]; rfl
theorem refB_eq {S : GSet} {un : List (ByteArray × ByteArray)} : ∀ (body : List GAtom) (b : Bd), (b.map Prod.fst).Nodup → (∀ s ∈ b.map Prod.fst, isV s = true) →
    (∀ p ∈ un, (isV p.1 = true → p.1 ∈ (body.flatMap (·.Args)).foldl addV (b.map Prod.fst)) ∧ (isV p.2 = true → p.2 ∈ (body.flatMap (·.Args)).foldl addV (b.map Prod.fst))) → refB S un body b = sols S un body b
  | [], b, hn, hV, hk => by
    rw [refB, sols]
    have : difF b un = dif b un := by
      cases hd : dif b un with
      | false =>
        have h1 := refB_bad (S := S) [] b hn hV (bad_of hd)
        rw [refB] at h1
        split at h1
        · cases h1
        · rename_i q; simpa using q
      | true =>
        refine List.all_eq_true.2 fun p hp => ?_
        have h1 := List.all_eq_true.1 hd p hp
        obtain ⟨x, hx⟩ := tB_key (hk p hp).1
        obtain ⟨y, hy⟩ := tB_key (hk p hp).2
        unfold difP at h1
        rw [hx, hy] at h1
        rw [tB_rep hV hx, tB_rep hV hy]
        simp at h1 ⊢
        exact h1
    rw [this]
  | a :: r, b, hn, hV, hk => by
    rw [sols]
    cases hd : dif b un with
    | false => rw [if_neg (by decide)]; exact refB_bad _ b hn hV (bad_of hd)
    | true =>
      rw [if_pos rfl, refB, grp_eq]
      refine (filter_flat _ _ _ (fun f hf => ?_) (fun f hf => ?_) S).symm
      · have hf := of_decide_eq_true hf
        unfold keyF at hf
        simp only [Prod.mk.injEq, List.length_map] at hf
        have hl : f.Args.length = a.Args.length := by omega
        by_cases e : (uni b [] a.Args f.Args).2.1 = true
        · rw [if_pos e, if_pos ⟨hf.1, hl, e⟩]
          obtain ⟨h1, h2⟩ := uni_allV (fr := []) hl.symm e hn hV
          refine (refB_eq r _ h1 h2 (fun p hp => ?_)).symm
          rw [uni_keys _ _ _ _ hl.symm e]
          have := hk p hp
          rw [List.flatMap_cons, List.foldl_append] at this
          exact this
        · rw [if_neg e, if_neg (fun q => e q.2.2)]
      · rw [if_neg]
        rintro ⟨q1, q2, _⟩
        have hf := of_decide_eq_false hf
        unfold keyF at hf
        simp only [Prod.mk.injEq, List.length_map] at hf
        exact hf ⟨q1, by omega⟩
end Go.Proofs.YtflgpccacloadaaDoor.Am
/- Plain law: the reference's Round and Solve. -/
namespace Go.Proofs.YtflgpccacloadaaDoor.Am
open Go.RowKit
theorem addA_mem (l : List GAtom) (a z : GAtom) : z ∈ addA l a ↔ z ∈ l ∨ z = a := by
  unfold addA
  split
  · rename_i e
    exact ⟨.inl, fun q => q.elim id (fun q => q ▸ e)⟩
  · rw [insA_mem]; exact Or.comm
theorem addA_len (l : List GAtom) (a : GAtom) : (addA l a).length ≤ l.length + 1 := by
  unfold addA
  split
  · omega
  · rw [insA_len]; omega
def ratom (b : Bd) (h : GAtom) : GAtom := ⟨h.Name, h.Args.map (rep b)⟩
theorem ratom_eq {b : Bd} {h : GAtom} (hV : ∀ s ∈ b.map Prod.fst, isV s = true) (hk : ∀ s ∈ h.Args, isV s = true → s ∈ b.map Prod.fst) : ratom b h = hatom b h := by
  unfold ratom hatom
  congr 1
  refine List.map_congr_left fun s hs => ?_
  obtain ⟨x, hx⟩ := tB_key (hk s hs)
  rw [tB_rep hV hx, hx]
  rfl
theorem atom_loop (h : GAtom) (vs cs : List ByteArray) (g : Nat) (hv : vs.length ≤ 4611686018427387904) (hg : vs.length < g) (hl : h.Args.length * 16 ≤ 140737488355328) : ∀ (k i : Nat) (out : List ByteArray), h.Args.length + 1 ≤ i + k → i ≤ h.Args.length → out.length = i →
    M_r16_Atom_L1 h vs cs g k (i : Int) out = some ⟨h.Name, out ++ (h.Args.drop i).map (rep (vs.zip cs))⟩ := by
  intro k
  induction k with
  | zero => intro i out h1 h2; omega
  | succ k ih =>
    intro i out h1 h2 h3
    rw [M_r16_Atom_L1]
    by_cases hlt : i < h.Args.length
    · have hy := List.getElem?_eq_getElem hlt
      rw [show decide ((i : Int) < ((h.Args.map cS).length : Int)) = true by simp; omega]
      show ix h.Args (i : Int) _ = _
      rw [ix_at hy, rep_eq g _ vs cs hv hg, ob1_some]
      refine grd_mk (by omega) ?_
      rw [wrap_eq (by omega) (by omega), dropC hy, List.map_cons]
      have := ih (i + 1) (out ++ [rep (vs.zip cs) h.Args[i]]) (by omega) (by omega) (by simp; omega)
      rw [List.append_assoc] at this
      exact this
    · rw [show decide ((i : Int) < ((h.Args.map cS).length : Int)) = false by simp; omega]
      rw [List.drop_of_length_le (by omega), List.map_nil, List.append_nil]
      exact grd_mk (by omega) rfl
theorem atom_eq (h : GAtom) (vs cs : List ByteArray) (g : Nat) (hv : vs.length ≤ 4611686018427387904) (hg : vs.length < g) (hl : h.Args.length * 16 ≤ 140737488355328) (hg2 : h.Args.length < g) : M_r16_Atom g h vs cs = some (ratom (vs.zip cs) h) := by
  unfold M_r16_Atom
  have := atom_loop h vs cs g hv hg hl g 0 [] (by omega) (Nat.zero_le _) rfl
  rw [List.drop_zero] at this
  exact this
theorem rnd1 (rules : List GRule) (g v : Nat) (r : GRule) (hr : rules[v]? = some r) (vs : List ByteArray) (bs : List Bd) (hv : vs.length ≤ 4611686018427387904) (hg : vs.length < g) (hl : r.Head.Args.length ≤ 1000) (hgg : 1000 < g) (hbs : bs.length ≤ 3500000000000)
    (hz : ∀ b ∈ bs, vs.zip (b.map Prod.snd) = b) : ∀ (k i : Nat) (out : List GAtom), bs.length + 1 ≤ i + k → i ≤ bs.length → Few g out → out.length + bs.length + 1 ≤ 3500000000000 + i → out.length + bs.length < g + i →
    M_r16_Round_L1 rules g (v : Int) vs (bs.map (·.map Prod.snd)) k out (i : Int) = some (((bs.drop i).map (fun b => ratom b r.Head)).foldl addA out) := by
  intro k
  induction k with
  | zero => intro i out h1 h2; omega
  | succ k ih =>
    intro i out h1 h2 h3 h4 h5
    rw [M_r16_Round_L1]
    by_cases h : i < bs.length
    · have hy := List.getElem?_eq_getElem h
      have hy2 : (bs.map (·.map Prod.snd))[i]? = some (bs[i].map Prod.snd) := by rw [List.getElem?_map, hy]; rfl
      rw [show decide ((i : Int) < (((bs.map (·.map Prod.snd)).map cL_cS).length : Int)) = true by simp; omega]
      show ix rules (v : Int) _ = _
      rw [ix_at hr, ix_at hy2, atom_eq r.Head vs _ g hv hg (by omega) (by omega), ob1_some, hz _ (List.getElem_mem h)]
      have q1 : (out.length + 1) * 40 ≤ 140737488355328 := by omega
      have q2 : out.length < g := by omega
      have q3 : (ratom bs[i] r.Head).Args.length ≤ 1000000000 := by
        show (r.Head.Args.map _).length ≤ _
        rw [List.length_map]
        exact Nat.le_trans hl (by decide)
      rw [add_eq g out (ratom bs[i] r.Head) q1 h3 q3 q2, ob1_some, dropC hy, List.map_cons, List.foldl_cons, wrap_eq (by omega) (by omega)]
      have hal := addA_len out (ratom bs[i] r.Head)
      refine ih (i + 1) (addA out (ratom bs[i] r.Head)) (by omega) (by omega) (fun a ha => ?_) (by omega) (by omega)
      rcases (addA_mem _ _ _).1 ha with e | e
      · exact h3 a e
      · rw [e]
        exact ⟨q3, by show (r.Head.Args.map _).length < _; rw [List.length_map]; omega⟩
    · rw [show decide ((i : Int) < (((bs.map (·.map Prod.snd)).map cL_cS).length : Int)) = false by simp; omega]
      rw [List.drop_of_length_le (by omega)]
      rfl
/-- a world that is small enough -/
structure Wd (rules : List GRule) (S : GSet) : Prop where
  str : StrA S
  len : S.length ≤ 4096
  args : ∀ a ∈ S, a.Args.length ≤ 8
  known : ∀ r ∈ rules, Known r
  rule : ∀ r ∈ rules, r.Body.length ≤ 3 ∧ r.Unequal.length ≤ 6 ∧ ∀ a ∈ r.Head :: r.Body, a.Args.length ≤ 8
  cnt : (allH S rules).length ≤ 100000
  nr : rules.length ≤ 8
theorem few8 {g : Nat} (hg : 1000 < g) {l : List GAtom} (h : ∀ a ∈ l, a.Args.length ≤ 8) : Few g l := fun a ha => by have := h a ha; omega
theorem vars_ok (body : List GAtom) : (vars body).Nodup ∧ ∀ s ∈ vars body, isV s = true := addV_ok _ [] List.nodup_nil (fun s hs => by cases hs)
theorem rheads_args {S : GSet} {r : GRule} {a : GAtom} (h : a ∈ rheads S r) : a.Args.length = r.Head.Args.length := by
  obtain ⟨b, _, rfl⟩ := List.mem_map.1 h
  simp [hatom]
theorem rnd2 {rules : List GRule} {S : GSet} (hw : Wd rules S) (g : Nat) (hg : 1000000000000 < g) (hg2 : g ≤ 4611686018427387904) : ∀ (k i : Nat) (out : List GAtom), rules.length + 1 ≤ i + k → i ≤ rules.length → (∀ a ∈ out, a.Args.length ≤ 8) → out.length + (allH S (rules.drop i)).length ≤ 1000000 →
    M_r16_Round_L2 S rules g k out (i : Int) = some ((allH S (rules.drop i)).foldl addA out) := by
  obtain ⟨w1, w2, w3, w4, w5, w7, w6⟩ := hw
  intro k
  induction k with
  | zero => intro i out h1 h2; omega
  | succ k ih =>
    intro i out h1 h2 h3 h4
    rw [M_r16_Round_L2]
    by_cases h : i < rules.length
    · have hy := List.getElem?_eq_getElem h
      generalize hrr : rules[i] = r at hy
      have hr : r ∈ rules := by rw [← hrr]; exact List.getElem_mem h
      obtain ⟨b1, b2, b3⟩ := w5 r hr
      have hfl : (r.Body.flatMap (·.Args)).length ≤ 3 * 8 := Nat.le_trans (flat_le _ 8 r.Body (fun a ha => b3 a (List.mem_cons_of_mem _ ha))) (Nat.mul_le_mul_right _ b1)
      have hvl := vars_len r.Body
      have hhl := b3 r.Head (List.mem_cons_self ..)
      obtain ⟨v1, v2⟩ := vars_ok r.Body
      rw [show decide ((i : Int) < ((rules.map cGRule).length : Int)) = true by simp; omega]
      have hb := bind_eq S r.Body r.Unequal (vars r.Body) 100000 v1 v2 (by omega) (by omega) (by omega) (by omega) (few8 (by omega) (fun a ha => b3 a (List.mem_cons_of_mem _ ha))) (few8 (by omega) w3) (by omega) (by omega) (fun m hm => by
        have h5 : S.length ^ m ≤ 4096 ^ 3 := Nat.le_trans (Nat.pow_le_pow_left w2 m) (Nat.pow_le_pow_right (by omega) (by omega))
        have h6 : (4096 : Nat) ^ 3 = 68719476736 := by decide
        omega) r.Body.length 0 (by omega) g [] (by omega) (Nat.zero_le _) (by rw [List.drop_zero]; rfl)
      rw [List.drop_zero, List.zip_nil_right, show ((0 : Nat) : Int) = 0 from rfl] at hb
      have hk := w4 r hr
      rw [refB_eq r.Body [] List.nodup_nil (fun s hs => by cases hs) hk.un] at hb
      have hzz : ∀ b ∈ sols S r.Unequal r.Body [], (vars r.Body).zip (b.map Prod.snd) = b := fun b hb => by
        have : vars r.Body = b.map Prod.fst := (sols_sound _ _ _ hb).2.1.symm
        rw [this, zip_self]
      have hhead : (sols S r.Unequal r.Body []).map (fun b => ratom b r.Head) = rheads S r := by
        unfold rheads rsols
        refine List.map_congr_left fun b hb => ?_
        have : b.map Prod.fst = vars r.Body := (sols_sound _ _ _ hb).2.1
        exact ratom_eq (fun s hs => v2 s (by rw [← this]; exact hs)) (fun s hs hv => by rw [this]; exact hk.head s hs hv)
      have hd : rules.drop i = r :: rules.drop (i + 1) := by rw [← hrr]; exact List.drop_eq_getElem_cons h
      rw [hd, allH, List.flatMap_cons, List.length_append] at h4
      have hlen : (rheads S r).length = (sols S r.Unequal r.Body []).length := List.length_map _
      have e1 : (ix rules (i : Int) (fun y122 => ob1 (M_r16_Variables g y122.Body) (fun z123 => ix rules (i : Int) (fun y124 => ix rules (i : Int) (fun y125 =>
           ob1 (M_r16_bindings g S y124.Body y125.Unequal z123 [] 0) (fun z126 => M_r16_Round_L1 rules g (i : Int) z123 z126 g out 0))))) : Option (List GAtom)) = some ((rheads S r).foldl addA out) := by
        rw [ix_at hy, rvars_eq r.Body g (by omega) (by omega) (by omega) (by omega), ob1_some, ix_at hy, ix_at hy, hb, ob1_some]
        have := rnd1 rules g i r hy (vars r.Body) (sols S r.Unequal r.Body []) (by omega) (by omega) (by omega) (by omega) (by omega) hzz g 0 out (by omega) (Nat.zero_le _) (few8 (by omega) h3) (by omega) (by omega)
        rw [List.drop_zero, hhead, show ((0 : Nat) : Int) = 0 from rfl] at this
        exact this
      show ob1 _ _ = _
      rw [e1, ob1_some, hd, allH, List.flatMap_cons, List.foldl_append, wrap_eq (by omega) (by omega)]
      have hmem : ∀ (x l : List GAtom) z, z ∈ x.foldl addA l → z ∈ l ∨ z ∈ x := by
        intro x
        induction x with
        | nil => intro l z hz; exact .inl hz
        | cons a q ihx =>
          intro l z hz
          rw [List.foldl_cons] at hz
          rcases ihx _ z hz with e | e
          · rcases (addA_mem _ _ _).1 e with e | e
            · exact .inl e
            · exact .inr (by rw [e]; exact List.mem_cons_self ..)
          · exact .inr (List.mem_cons_of_mem _ e)
      have hfll : ∀ (x l : List GAtom), (x.foldl addA l).length ≤ l.length + x.length := by
        intro x
        induction x with
        | nil => intro l; exact Nat.le_refl _
        | cons a q ihx =>
          intro l
          have := ihx (addA l a)
          have := addA_len l a
          rw [List.foldl_cons]
          simp only [List.length_cons]
          omega
      have hl3 := hfll (rheads S r) out
      refine ih (i + 1) ((rheads S r).foldl addA out) (by omega) (by omega) (fun a ha => ?_) (by unfold allH; omega)
      rcases hmem _ _ _ ha with e | e
      · exact h3 a e
      · rw [rheads_args e]; exact hhl
    · rw [show decide ((i : Int) < ((rules.map cGRule).length : Int)) = false by simp; omega]
      rw [List.drop_of_length_le (by omega)]
      rfl
theorem rround_eq {rules : List GRule} {S : GSet} (hw : Wd rules S) (g : Nat) (hg : 1000000000000 < g) (hg2 : g ≤ 4611686018427387904) : M_r16_Round g S rules = some (nextS rules S) := by
  unfold M_r16_Round nextS
  have h1 := hw.cnt
  have h2 := hw.len
  have h3 := hw.nr
  have := rnd2 hw g hg hg2 g 0 S (by omega) (Nat.zero_le _) hw.args (by rw [List.drop_zero]; omega)
  rw [List.drop_zero, fold_setA hw.str] at this
  exact this
theorem wrong1 (rules : List GRule) (g : Nat) (hg : 1000000 < g) (hl : rules.length ≤ 1000000) (hr : ∀ r ∈ rules, CkOk r ∧ (r.Body.flatMap (·.Args)).length ≤ 1000000 ∧ r.Body.length ≤ 1000000 ∧ r.Head.Args.length ≤ 1000000 ∧ r.Unequal.length ≤ 1000000) : ∀ (k i : Nat), rules.length + 1 ≤ i + k → i ≤ rules.length →
    M_r16_Wrong_L1 rules g k (i : Int) = some (match firstE (rules.drop i) with | .nil => .inl () | .no e => if e = 0 then .inl () else .inr e) ∨ ∃ r ∈ rules, ckR r = .no 0 := by
  intro k
  induction k with
  | zero => intro i h1 h2; omega
  | succ k ih =>
    intro i h1 h2
    rw [M_r16_Wrong_L1]
    by_cases h : i < rules.length
    · have hy := List.getElem?_eq_getElem h
      obtain ⟨c1, c2, c3, c4, c5⟩ := hr _ (List.getElem_mem h)
      rw [show decide ((i : Int) < ((rules.map cGRule).length : Int)) = true by simp; omega]
      have e1 : ∀ (f : GRule → Option (Unit ⊕ Int)), sel true (ix rules (i : Int) f) (some (.inl ())) = f rules[i] := fun f => ix_at hy
      rw [e1, rcheck_eq g rules[i] c1 (by omega) (by omega) (by omega) (by omega) (by omega), ob1_some, dropC hy, firstE]
      cases hc : ckR rules[i] with
      | nil =>
        rw [show (codeE Er.nil != 0) = false from rfl, wrap_eq (by omega) (by omega)]
        exact ih (i + 1) (by omega) (by omega)
      | no e =>
        by_cases e0 : e = 0
        · exact .inr ⟨rules[i], List.getElem_mem h, by rw [hc, e0]⟩
        · refine .inl ?_
          simp only []
          rw [if_neg e0, show (codeE (Er.no e) != 0) = true by simp [codeE]; exact e0]
          rfl
    · rw [show decide ((i : Int) < ((rules.map cGRule).length : Int)) = false by simp; omega]
      rw [List.drop_of_length_le (by omega)]
      exact .inl rfl
theorem ckR_ne0 (r : GRule) : ckR r ≠ .no 0 := by
  unfold ckR
  repeat' split
  all_goals simp
theorem firstE_ne0 : ∀ l : List GRule, firstE l ≠ .no 0
  | [] => by simp [firstE]
  | r :: q => by
    rw [firstE]
    split
    · exact firstE_ne0 q
    · rename_i e he
      rw [← he]; exact ckR_ne0 r
theorem wrong2 (facts : List GAtom) (g : Nat) (hg : 1000000 < g) (hl : facts.length ≤ 1000000) (hA : ∀ a ∈ facts, a.Args.length ≤ 1000000) : ∀ (k i : Nat), facts.length + 1 ≤ i + k → i ≤ facts.length →
    M_r16_Wrong_L2 facts g k (i : Int) = some (if (facts.drop i).any badF = true then 2 else 0) := by
  intro k
  induction k with
  | zero => intro i h1 h2; omega
  | succ k ih =>
    intro i h1 h2
    rw [M_r16_Wrong_L2]
    by_cases h : i < facts.length
    · have hy := List.getElem?_eq_getElem h
      have hm := hA _ (List.getElem_mem h)
      rw [show decide ((i : Int) < ((facts.map cGAtom).length : Int)) = true by simp; omega]
      have hu : M_r16_unbound g facts[i].Args [] = some (facts[i].Args.any isV) := by
        rw [runb_eq facts[i].Args [] g (by omega) (by simp) (by simp; omega) (by omega)]
        congr 2
        funext s
        unfold badT
        simp
      show ix facts (i : Int) _ = _
      rw [ix_at hy, beq_bl, sel_dec, dropC hy, List.any_cons]
      by_cases e : facts[i].Name = (⟨#[]⟩ : ByteArray)
      · have hb : badF facts[i] = true := by unfold badF; rw [decide_eq_true e]; rfl
        rw [if_pos e, hb, Bool.true_or, if_pos rfl]
      · rw [if_neg e, ix_at hy, hu, ob1_some]
        have hb : badF facts[i] = facts[i].Args.any isV := by unfold badF; rw [decide_eq_false e]; rfl
        rw [hb]
        cases facts[i].Args.any isV with
        | true => rfl
        | false =>
          show M_r16_Wrong_L2 facts g k _ = _
          rw [wrap_eq (by omega) (by omega), Bool.false_or]
          exact ih (i + 1) (by omega) (by omega)
    · rw [show decide ((i : Int) < ((facts.map cGAtom).length : Int)) = false by simp; omega]
      rw [List.drop_of_length_le (by omega)]
      rfl
/-- the first error of facts and rules, but for the sizes -/
def wrongE (facts : List GAtom) (rules : List GRule) : Er := match firstE rules with
  | .no e => .no e
  | .nil => if facts.any badF = true then .no 2 else .nil
theorem wrong_eq (g : Nat) (facts : List GAtom) (rules : List GRule) (hg : 1000000 < g) (hl : facts.length ≤ 1000000) (hA : ∀ a ∈ facts, a.Args.length ≤ 1000000) (hn : rules.length ≤ 1000000) (hr : ∀ r ∈ rules, CkOk r ∧ (r.Body.flatMap (·.Args)).length ≤ 1000000 ∧ r.Body.length ≤ 1000000 ∧ r.Head.Args.length ≤ 1000000 ∧ r.Unequal.length ≤ 1000000) :
    M_r16_Wrong g facts rules = some (codeE (wrongE facts rules)) := by
  unfold M_r16_Wrong wrongE
  rcases wrong1 rules g hg hn hr g 0 (by omega) (Nat.zero_le _) with h | ⟨r, _, h⟩
  · rw [List.drop_zero, show ((0 : Nat) : Int) = 0 from rfl] at h
    rw [h, ob1_some]
    cases he : firstE rules with
    | no e =>
      have : ¬ e = 0 := fun q => firstE_ne0 rules (by rw [he, q])
      simp only []
      rw [if_neg this]
      rfl
    | nil =>
      show M_r16_Wrong_L2 facts g g 0 = _
      have := wrong2 facts g hg hl hA g 0 (by omega) (Nat.zero_le _)
      rw [List.drop_zero, show ((0 : Nat) : Int) = 0 from rfl] at this
      rw [this]
      cases facts.any badF <;> rfl
  · exact absurd h (ckR_ne0 r)
theorem rset_loop (l : List GAtom) (g : Nat) (hg : 1000000 < g) (hl : l.length ≤ 100000) (hA : ∀ a ∈ l, a.Args.length ≤ 1000) : ∀ (k i : Nat) (out : List GAtom), l.length + 1 ≤ i + k → i ≤ l.length → (∀ a ∈ out, a.Args.length ≤ 1000) → out.length ≤ i →
    M_r16_set_L1 l g k out (i : Int) = some ((l.drop i).foldl addA out) := by
  intro k
  induction k with
  | zero => intro i out h1 h2; omega
  | succ k ih =>
    intro i out h1 h2 h3 h4
    rw [M_r16_set_L1]
    by_cases h : i < l.length
    · have hy := List.getElem?_eq_getElem h
      have hm := hA _ (List.getElem_mem h)
      rw [show decide ((i : Int) < ((l.map cGAtom).length : Int)) = true by simp; omega]
      show ix l (i : Int) _ = _
      rw [ix_at hy, add_eq g out l[i] (by omega) (fun a ha => by have := h3 a ha; omega) (by omega) (by omega), ob1_some, dropC hy, List.foldl_cons, wrap_eq (by omega) (by omega)]
      have hal := addA_len out l[i]
      refine ih (i + 1) (addA out l[i]) (by omega) (by omega) (fun a ha => ?_) (by omega)
      rcases (addA_mem _ _ _).1 ha with e | e
      · exact h3 a e
      · rw [e]; exact hm
    · rw [show decide ((i : Int) < ((l.map cGAtom).length : Int)) = false by simp; omega]
      rw [List.drop_of_length_le (by omega)]
      rfl
theorem rset_eq (l : List GAtom) (g : Nat) (hg : 1000000 < g) (hl : l.length ≤ 100000) (hA : ∀ a ∈ l, a.Args.length ≤ 1000) : M_r16_set g l = some (setA l) := by
  unfold M_r16_set
  have := rset_loop l g hg hl hA g 0 [] (by omega) (Nat.zero_le _) (fun a ha => by cases ha) (Nat.le_refl _)
  rw [List.drop_zero, fold_setA List.Pairwise.nil, List.nil_append] at this
  exact this
theorem rrun_eq (rules : List GRule) (g : Nat) (Inv : GSet → Prop) (hI : ∀ S, Inv S → StrA S → S.length ≤ 4096 → Wd rules S) (hN : ∀ S, Inv S → (nextS rules S).length ≤ 4096 → Inv (nextS rules S)) (hg : 1000000000000 < g) (hg2 : g ≤ 4611686018427387904) :
    ∀ (k : Nat) (S : GSet), Inv S → StrA S → S.length ≤ 4096 → 4097 ≤ k + S.length → M_r16_Solve_L1 rules g k S = some ((runS rules k S).1, codeE (runS rules k S).2) := by
  intro k
  induction k with
  | zero => intro S h1 h2 h3 h4; omega
  | succ k ih =>
    intro S h1 h2 h3 h4
    rw [M_r16_Solve_L1, rround_eq (hI S h1 h2 h3) g hg hg2, ob1_some, beq_int, sel_dec, runS]
    have hge := next_ge (rules := rules) h2
    by_cases e2 : (nextS rules S).length = S.length
    · rw [if_pos (by rw [List.length_map, List.length_map]; exact congrArg Int.ofNat e2), if_neg (by omega), if_pos e2]
      rfl
    · rw [if_neg (by rw [List.length_map, List.length_map]; exact fun q => e2 (Int.ofNat.inj q)), sel_dec]
      by_cases e1 : 4096 < (nextS rules S).length
      · rw [if_pos (by rw [List.length_map]; exact Int.ofNat_lt.2 e1), if_pos e1]
        rfl
      · rw [if_neg (by rw [List.length_map]; exact fun q => e1 (Int.ofNat_lt.1 q)), if_neg e1, if_neg e2]
        exact ih (nextS rules S) (hN S h1 (by omega)) (setA_spec _).1 (by omega) (by omega)
end Go.Proofs.YtflgpccacloadaaDoor.Am
/- Plain law: the model of a program that is not too large. -/
namespace Go.Proofs.YtflgpccacloadaaDoor.Am
open Go.RowKit
/-- what follows from the facts by the rules -/
inductive Der (facts : List GAtom) (rules : List GRule) : GAtom → Prop
  | fact {a : GAtom} : a ∈ facts → Der facts rules a
  | rule {r : GRule} {σ : Asg} : r ∈ rules → (∀ a ∈ r.Body, Der facts rules (inst σ a)) → (∀ p ∈ r.Unequal, trm σ p.1 ≠ trm σ p.2) → Der facts rules (inst σ r.Head)
structure Good (p : GProgram) : Prop where
  sm : Small p
  hx : ∀ a ∈ allA p, ∀ x ∈ a.Args, isV x = false → x.size ≤ 140737488355328
def CC (p : GProgram) : List ByteArray := consts (allA p)
theorem mem_fact {p : GProgram} {a : GAtom} (h : a ∈ p.Facts) : a ∈ allA p := List.mem_append_left _ h
theorem mem_rule {p : GProgram} {r : GRule} {a : GAtom} (hr : r ∈ p.Rules) (h : a ∈ r.Head :: r.Body) : a ∈ allA p := List.mem_append_right _ (List.mem_flatMap.2 ⟨r, hr, h⟩)
theorem CC_mem {p : GProgram} {a : GAtom} {x : ByteArray} (ha : a ∈ allA p) (hx : x ∈ a.Args) (hv : isV x = false) : x ∈ CC p := (addC_mem _ _ _).2 (.inr ⟨List.mem_flatMap.2 ⟨a, ha, hx⟩, hv⟩)
theorem CC_size {p : GProgram} (hp : Good p) {x : ByteArray} (h : x ∈ CC p) : x.size ≤ 140737488355328 := by
  rcases (addC_mem _ _ _).1 h with q | ⟨q, hv⟩
  · cases q
  · obtain ⟨a, ha, hx⟩ := List.mem_flatMap.1 q
    exact hp.hx a ha x hx hv
theorem ckOk_small {p : GProgram} (hp : Small p) {r : GRule} (hr : r ∈ p.Rules) : CkOk r ∧ (r.Body.flatMap (·.Args)).length ≤ 160 ∧ r.Body.length ≤ 20 ∧ r.Head.Args.length ≤ 8 ∧ r.Unequal.length ≤ 6 := by
  obtain ⟨b1, b2, b3, b4⟩ := hp.rule r hr
  have hfl : (r.Body.flatMap (·.Args)).length ≤ 20 * 8 := Nat.le_trans (flat_le _ 8 r.Body (fun a ha => (b4 a (List.mem_cons_of_mem _ ha)).1)) (Nat.mul_le_mul_right _ b2)
  have hh := (b4 r.Head (List.mem_cons_self ..)).1
  exact ⟨⟨by omega, by omega, by omega⟩, by omega, by omega, by omega, by omega⟩
theorem firstE_all : ∀ {l : List GRule}, firstE l = .nil → ∀ r ∈ l, ckR r = .nil
  | [], _, r, hr => by cases hr
  | x :: q, h, r, hr => by
    rw [firstE] at h
    split at h
    · rename_i hx
      rcases List.mem_cons.1 hr with e | e
      · rw [e]; exact hx
      · exact firstE_all h r e
    · cases h
theorem ckR_body {r : GRule} (h : ckR r = .nil) : r.Body.length ≤ 16 ∧ (∀ a ∈ r.Head :: r.Body, a.Args.length ≤ 6) := by
  unfold ckR at h
  split at h
  · cases h
  · split at h
    · cases h
    · split at h
      · cases h
      · rename_i h1 h2 h3
        refine ⟨by omega, fun a ha => ?_⟩
        have : ¬ longA a = true := fun q => h3 (List.any_eq_true.2 ⟨a, ha, q⟩)
        unfold longA at this
        simp at this
        exact this
theorem dec_len : ∀ u : Nat, (Lib.decDigits u).length ≤ u + 1 := by
  intro u
  induction u using Nat.strongRecOn with
  | _ u ih =>
    by_cases h : u < 10
    · rw [dec_sm h]; simp
    · rw [dec_bg h, List.length_append]
      have := ih (u / 10) (by omega)
      simp only [List.length_cons, List.length_nil]
      omega
theorem keyOk_of {a : GAtom} (hn : a.Name.size ≤ 100) (hl : a.Args.length ≤ 8) (hx : ∀ x ∈ a.Args, x.size ≤ 140737488355328) : KeyOk a := by
  refine ⟨?_, by omega⟩
  rw [← bl_len]
  unfold atomKey
  rw [bl_fold, bl_append, bl_append, bl_ita, List.length_append, List.length_append, List.length_append, bl_len, bl_len]
  have h1 := dec_len a.Name.size
  have h2 : (⟨#[32]⟩ : ByteArray).size = 1 := rfl
  have h3 : (a.Args.flatMap encL).length ≤ a.Args.length * 300000000000000 := flat_le _ _ _ (fun x hm => by
    have h4 := dec_len x.size
    have h5 := hx x hm
    unfold encL
    rw [List.length_cons, List.length_append, List.length_cons, bl_len]
    omega)
  have h4 : a.Args.length * 300000000000000 ≤ 8 * 300000000000000 := Nat.mul_le_mul_right _ hl
  omega
/-- the sets that a run reaches -/
structure Inv (p : GProgram) (S : GSet) : Prop where
  ck : ∀ r ∈ p.Rules, ckR r = .nil
  str : StrA S
  over : Over (CC p) S
  sml : ∀ a ∈ S, a.Args.length ≤ 8 ∧ a.Name.size ≤ 100
  frm : ∀ a ∈ S, a ∈ p.Facts ++ p.Rules.flatMap (made1 (CC p))
section
variable {p : GProgram} (hp : Good p)
include hp
theorem inv_len {S : GSet} (h : Inv p S) : S.length ≤ 180 := by
  have h1 := nodup_sub (strA_nodup h.str) h.frm
  rw [List.length_append, flat_len _ _ (made1_len (CC p))] at h1
  have h2 := hp.sm.facts
  have h3 := hp.sm.sum
  unfold CC at h1
  omega
theorem rsols_small {S : GSet} (h : Inv p S) {r : GRule} (hr : r ∈ p.Rules) : (rheads S r).length ≤ 1000 := by
  have h1 := rsols_len h.over (strA_nodup h.str) r
  have h2 := hp.sm.pow r hr
  have h3 : (rheads S r).length = (rsols S r).length := List.length_map _
  unfold CC at h1
  omega
theorem head_const {r : GRule} (hr : r ∈ p.Rules) : ∀ x ∈ r.Head.Args, isV x = false → x ∈ CC p := fun _ hx hv => CC_mem (mem_rule hr (List.mem_cons_self ..)) hx hv
theorem inv_allH {S : GSet} (h : Inv p S) : (allH S p.Rules).length ≤ 8000 := by
  have h1 : (allH S p.Rules).length ≤ p.Rules.length * 1000 := flat_le _ _ _ (fun r hr => rsols_small hp h hr)
  have h2 := hp.sm.rules
  omega
theorem inv_rnd {S : GSet} (h : Inv p S) : RndOk p.Rules S := by
  refine ⟨fun r hr => ?_, fun a ha => by have := (h.sml a ha).1; omega, by have := inv_allH hp h; omega⟩
  obtain ⟨b1, b2, b3, b4⟩ := hp.sm.rule r hr
  refine ⟨by omega, by omega, fun a ha => by have := (b4 a (List.mem_cons_of_mem _ ha)).1; omega, fun a ha => ?_⟩
  have h1 := rheads_made h.over (known_of (h.ck r hr)) (head_const hp hr) ha
  have h2 := b4 r.Head (List.mem_cons_self ..)
  refine keyOk_of ?_ (by rw [rheads_args ha]; exact h2.1) (fun x hx => CC_size hp (h1.2 x hx))
  obtain ⟨b, _, rfl⟩ := List.mem_map.1 ha
  exact h2.2
theorem inv_wd {S : GSet} (h : Inv p S) : Wd p.Rules S := by
  refine ⟨h.str, by have := inv_len hp h; omega, fun a ha => (h.sml a ha).1, fun r hr => known_of (h.ck r hr), fun r hr => ?_, by have := inv_allH hp h; omega, hp.sm.rules⟩
  obtain ⟨b1, b2, b3, b4⟩ := hp.sm.rule r hr
  have := (ckR_body (h.ck r hr)).1
  exact ⟨by omega, b3, fun a ha => (b4 a ha).1⟩
theorem inv_next {S : GSet} (h : Inv p S) : Inv p (nextS p.Rules S) := by
  have key : ∀ a ∈ allH S p.Rules, (∀ x ∈ a.Args, x ∈ CC p) ∧ (a.Args.length ≤ 8 ∧ a.Name.size ≤ 100) ∧ a ∈ p.Rules.flatMap (made1 (CC p)) := by
    intro a ha
    obtain ⟨r, hr, hq⟩ := List.mem_flatMap.1 ha
    have h1 := rheads_made h.over (known_of (h.ck r hr)) (head_const hp hr) hq
    have h2 := (hp.sm.rule r hr).atoms r.Head (List.mem_cons_self ..)
    refine ⟨h1.2, ⟨by rw [rheads_args hq]; exact h2.1, ?_⟩, List.mem_flatMap.2 ⟨r, hr, h1.1⟩⟩
    obtain ⟨b, _, rfl⟩ := List.mem_map.1 hq
    exact h2.2
  refine ⟨h.ck, (setA_spec _).1, fun a ha => ?_, fun a ha => ?_, fun a ha => ?_⟩
  · rcases mem_next.1 ha with q | q
    · exact h.over a q
    · exact (key a q).1
  · rcases mem_next.1 ha with q | q
    · exact h.sml a q
    · exact (key a q).2.1
  · rcases mem_next.1 ha with q | q
    · exact h.frm a q
    · exact List.mem_append_right _ (key a q).2.2
theorem inv_start (h1 : firstE p.Rules = .nil) (h2 : p.Facts.any badF = false) : Inv p (setA p.Facts) := by
  have hm : ∀ a, a ∈ setA p.Facts → a ∈ p.Facts := fun a ha => ((setA_spec _).2.1 a).1 ha
  refine ⟨firstE_all h1, (setA_spec _).1, fun a ha x hx => ?_, fun a ha => hp.sm.fargs a (hm a ha), fun a ha => List.mem_append_left _ (hm a ha)⟩
  refine CC_mem (mem_fact (hm a ha)) hx ?_
  have h3 := List.any_eq_false.1 h2 a (hm a ha)
  unfold badF at h3
  simp only [Bool.or_eq_true, not_or] at h3
  cases hv : isV x with
  | false => rfl
  | true => exact absurd (List.any_eq_true.2 ⟨x, hx, hv⟩) h3.2
theorem run_spec : ∀ (k : Nat) (S : GSet), Inv p S → 181 ≤ k + S.length → ∃ S', runS p.Rules k S = (S', .nil) ∧ Inv p S' ∧ nextS p.Rules S' = S' ∧ (∀ z ∈ S, z ∈ S') ∧ ∀ Q : GAtom → Prop, (∀ z ∈ S, Q z) → (∀ T : GSet, (∀ z ∈ T, Q z) → Inv p T → ∀ z ∈ allH T p.Rules, Q z) → ∀ z ∈ S', Q z := by
  intro k
  induction k with
  | zero => intro S h1 h2; have := inv_len hp h1; omega
  | succ k ih =>
    intro S h1 h2
    have h3 := inv_next hp h1
    have h4 := inv_len hp h3
    have hge := next_ge (rules := p.Rules) h1.str
    rw [runS, if_neg (by omega)]
    by_cases e : (nextS p.Rules S).length = S.length
    · rw [if_pos e]
      exact ⟨S, rfl, h1, next_fix h1.str e, fun z hz => hz, fun Q hQ _ => hQ⟩
    · rw [if_neg e]
      obtain ⟨S', g1, g2, g3, g4, g5⟩ := ih (nextS p.Rules S) h3 (by omega)
      refine ⟨S', g1, g2, g3, fun z hz => g4 z (mem_next.2 (.inl hz)), fun Q hQ hr => g5 Q (fun z hz => ?_) hr⟩
      rcases mem_next.1 hz with q | q
      · exact hQ z q
      · exact hr S hQ h1 z q
theorem solve_good (g : Nat) (hg : 3000000 < g) : M_datalog_Solve g p.Facts p.Rules = some (solveS g p.Facts p.Rules) := by
  have h1 := hp.sm.facts
  have h2 := hp.sm.rules
  refine solve_eq g p.Facts p.Rules (fun r hr => (ckOk_small hp.sm hr).1) ⟨fun a ha => by have := (hp.sm.fargs a ha).1; omega, by omega⟩ (by omega) (fun r hr => by have := (ckOk_small hp.sm hr).2.2.1; omega) hg (by omega) (Inv p) (fun h3 h4 _ => inv_start hp h3 h4) (fun S h => inv_rnd hp h) (fun S h _ => inv_next hp h)
theorem solve_wrong (g : Nat) {e : Int} (hw : wrongE p.Facts p.Rules = .no e) : solveS g p.Facts p.Rules = ([], .no e) := by
  unfold wrongE at hw
  unfold solveS
  cases hf : firstE p.Rules with
  | no e' => rw [hf] at hw; cases hw; rfl
  | nil =>
    rw [hf] at hw
    simp only [] at hw ⊢
    split at hw
    · rename_i hb
      rw [if_pos hb]; cases hw; rfl
    · cases hw
theorem wrong_nil (hw : wrongE p.Facts p.Rules = .nil) : firstE p.Rules = .nil ∧ p.Facts.any badF = false := by
  unfold wrongE at hw
  cases hf : firstE p.Rules with
  | no e' => rw [hf] at hw; cases hw
  | nil =>
    rw [hf] at hw
    simp only [] at hw
    split at hw
    · cases hw
    · rename_i hb; exact ⟨rfl, by simpa using hb⟩
theorem solve_nil (g : Nat) (hw : wrongE p.Facts p.Rules = .nil) : solveS g p.Facts p.Rules = runS p.Rules g (setA p.Facts) := by
  obtain ⟨h1, h2⟩ := wrong_nil hp hw
  have h3 := hp.sm.rules
  have h4 := inv_len hp (inv_start hp h1 h2)
  unfold solveS
  rw [h1]
  simp only []
  rw [h2, if_neg (by decide), if_neg (by omega), if_neg (by omega)]
/-- the model: what follows, in order -/
theorem solve_der (g : Nat) (hg : 3000000 < g) (hw : wrongE p.Facts p.Rules = .nil) : ∃ S, solveS g p.Facts p.Rules = (S, .nil) ∧ Inv p S ∧ S.length ≤ 180 ∧ nextS p.Rules S = S ∧ ∀ z, z ∈ S ↔ Der p.Facts p.Rules z := by
  obtain ⟨h1, h2⟩ := wrong_nil hp hw
  obtain ⟨S, g1, g2, g3, g4, g5⟩ := run_spec hp g (setA p.Facts) (inv_start hp h1 h2) (by omega)
  have hk : ∀ r ∈ p.Rules, Known r := fun r hr => known_of (firstE_all h1 r hr)
  refine ⟨S, by rw [solve_nil hp g hw, g1], g2, inv_len hp g2, g3, fun z => ⟨fun hz => ?_, fun hz => ?_⟩⟩
  · refine g5 (Der p.Facts p.Rules) (fun z hz => .fact (((setA_spec _).2.1 z).1 hz)) (fun T hT _ z hz => ?_) z hz
    obtain ⟨r, hr, σ, ⟨h3, h4⟩, rfl⟩ := (allH_mem hk).1 hz
    exact .rule hr (fun a ha => hT _ (h3 a ha)) h4
  · induction hz with
    | fact h => exact g4 _ (((setA_spec _).2.1 _).2 h)
    | rule hr hb hu ih =>
      rw [← g3]
      exact mem_next.2 (.inr ((allH_mem hk).2 ⟨_, hr, _, ⟨ih, hu⟩, rfl⟩))
theorem rsolve_eq (g : Nat) (hg : 1000000000000 < g) (hg2 : g ≤ 4611686018427387904) : M_r16_Solve g p.Facts p.Rules = some ((solveS g p.Facts p.Rules).1, codeE (solveS g p.Facts p.Rules).2) := by
  have h1 := hp.sm.facts
  have h2 := hp.sm.rules
  unfold M_r16_Solve
  rw [wrong_eq g p.Facts p.Rules (by omega) (by omega) (fun a ha => by have := (hp.sm.fargs a ha).1; omega) (by omega) (fun r hr => by obtain ⟨q1, q2, q3, q4, q5⟩ := ckOk_small hp.sm hr; exact ⟨q1, by omega, by omega, by omega, by omega⟩), ob1_some]
  cases hw : wrongE p.Facts p.Rules with
  | no e =>
    have he : ¬ e = 0 := by
      intro q
      subst q
      unfold wrongE at hw
      cases hf : firstE p.Rules with
      | no e' => rw [hf] at hw; cases hw; exact firstE_ne0 _ hf
      | nil => rw [hf] at hw; simp only [] at hw; split at hw <;> cases hw
    rw [solve_wrong hp g hw, show (codeE (Er.no e) != 0) = true by simp [codeE]; exact he]
    rfl
  | nil =>
    obtain ⟨h3, h4⟩ := wrong_nil hp hw
    have hi := inv_start hp h3 h4
    have hl := inv_len hp hi
    rw [solve_nil hp g hw, show (codeE Er.nil != 0) = false from rfl]
    show sel _ _ _ = _
    rw [sel_dec, if_neg (by rw [List.length_map]; omega), rset_eq p.Facts g (by omega) (by omega) (fun a ha => by have := (hp.sm.fargs a ha).1; omega), ob1_some]
    exact rrun_eq p.Rules g (Inv p) (fun S h _ _ => inv_wd hp h) (fun S h _ => inv_next hp h) hg hg2 g (setA p.Facts) hi hi.str (by omega) (by omega)
end
/-- whatever Solve returns is small -/
theorem res_small {p : GProgram} (hp : Good p) (g : Nat) (hg : 3000000 < g) : (solveS g p.Facts p.Rules).1.length ≤ 180 ∧ ∀ a ∈ (solveS g p.Facts p.Rules).1, a.Args.length ≤ 8 := by
  cases hw : wrongE p.Facts p.Rules with
  | no e => rw [solve_wrong hp g hw]; exact ⟨by simp, fun a ha => by cases ha⟩
  | nil =>
    obtain ⟨S, g1, g2, g3, _⟩ := solve_der hp g hg hw
    rw [g1]
    exact ⟨g3, fun a ha => (g2.sml a ha).1⟩
end Go.Proofs.YtflgpccacloadaaDoor.Am
/- Models printed by my decompiler, and the proofs that the code computes them. -/
namespace Go.Proofs.YtflgpccacloadaaDoor.Am
open Go.RowKit
theorem ci_XDLSolves {p K : Prop} (k : K) (h : p := by first | rfl | exact ⟨rfl, rfl⟩ | exact BW.mpf rfl rfl rfl FrI.h rfl | exact cloK3 rfl rfl rfl rfl rfl rfl rfl rfl rfl | exact CloK.bw (BW.fr (by assumption)) | exact BW.fr FrV.h | (refine BW.fr ?_; assumption) | (refine ⟨rfl, ?_⟩; (simp [cGProgram, cGAtom, cS, cGRule, cA2_cS, cF, take_len_map]; done)) | (refine RowK.same ?_ FrI.h; first | rfl | (simp [cGProgram, cGAtom, cS, cGRule, cA2_cS, cF, take_len_map]; done)) | (refine row_part1 ?_; (repeat (first | exact BWL.nil | exact bwll_nil | exact bw_c | exact BW.sl | exact BW.nil | exact bwll_same rfl FrI.h | refine BWL.cons ?_ ?_ | refine bwll_cons ?_ ?_ | (refine bw_own3 rfl rfl rfl FrI.h ?_ ?_ ?_) | exact BW.mpf rfl rfl rfl FrI.h rfl | exact cloK3 rfl rfl rfl rfl rfl rfl rfl rfl rfl | exact CloK.bw (BW.fr (by assumption)) | exact BW.fr FrV.h | exact BW.fr (by assumption) | refine bw_agg ?_ | refine bw_clo ?_ | refine bw_ptr rfl rfl rfl ?_ | (refine bw_own rfl rfl rfl ?_ FrI.h ?_ ?_) | assumption | omega | rfl | (rw [List.length_map, ← List.length_append]; assumption) | (refine bwll_same ?_ FrI.h; (simp [cGProgram, cGAtom, cS, cGRule, cA2_cS, cF] <;> fail)) | (rw [List.map_set]; refine bwll_set (by first | rfl | omega | simp) ?_ ?_) | refine bwll_set (by first | rfl | omega | simp) ?_ ?_ | (rw [List.map_replicate]; refine bwll_rep ?_) | refine bwll_rep ?_ | (rw [List.map_append]; refine bwll_append ?_ ?_) | refine bwll_append ?_ ?_ | (simp [cGProgram, cGAtom, cS, cGRule, cA2_cS, cF, take_len_map] <;> fail) | (rw [List.drop_zero, List.take_of_length_le] <;> first | rfl | (simp [cGProgram, cGAtom, cS, cGRule, cA2_cS, cF] <;> fail)) | (simp; omega) | (simp only [List.length_map, List.length_append, List.drop_zero, List.length_cons, List.length_nil, Nat.zero_add, Nat.add_zero] at *; omega))); done) | ((repeat (first | exact BWL.nil | exact bwll_nil | exact bw_c | exact BW.sl | exact BW.nil | exact bwll_same rfl FrI.h | refine BWL.cons ?_ ?_ | refine bwll_cons ?_ ?_ | (refine bw_own3 rfl rfl rfl FrI.h ?_ ?_ ?_) | exact BW.mpf rfl rfl rfl FrI.h rfl | exact cloK3 rfl rfl rfl rfl rfl rfl rfl rfl rfl | exact CloK.bw (BW.fr (by assumption)) | exact BW.fr FrV.h | exact BW.fr (by assumption) | refine bw_agg ?_ | refine bw_clo ?_ | refine bw_ptr rfl rfl rfl ?_ | (refine bw_own rfl rfl rfl ?_ FrI.h ?_ ?_) | assumption | omega | rfl | (rw [List.length_map, ← List.length_append]; assumption) | (refine bwll_same ?_ FrI.h; (simp [cGProgram, cGAtom, cS, cGRule, cA2_cS, cF] <;> fail)) | (rw [List.map_set]; refine bwll_set (by first | rfl | omega | simp) ?_ ?_) | refine bwll_set (by first | rfl | omega | simp) ?_ ?_ | (rw [List.map_replicate]; refine bwll_rep ?_) | refine bwll_rep ?_ | (rw [List.map_append]; refine bwll_append ?_ ?_) | refine bwll_append ?_ ?_ | (simp [cGProgram, cGAtom, cS, cGRule, cA2_cS, cF, take_len_map] <;> fail) | (rw [List.drop_zero, List.take_of_length_le] <;> first | rfl | (simp [cGProgram, cGAtom, cS, cGRule, cA2_cS, cF] <;> fail)) | (simp; omega) | (simp only [List.length_map, List.length_append, List.drop_zero, List.length_cons, List.length_nil, Nat.zero_add, Nat.add_zero] at *; omega))); done) | (simp [cGProgram, cGAtom, cS, cGRule, cA2_cS, cF, take_len_map]; done)) : p ∧ K := ⟨h, k⟩
theorem ca_XDLSolves {P : Prop} (h : P := by repeat (first | exact True.intro | refine ci_XDLSolves ?_)) : P := h
theorem dr_XDLSolves {b : Bool} {p K : Prop} (k : K) (h : b = true → p := by intro h; first | (cases h; done) | exact ⟨by kernel_rfl, by kernel_rfl⟩) : (b = true → p) ∧ K := ⟨h, k⟩
theorem cl_XDLSolves {C : Cx} {n : Nat} {o : Oper} {τ : Nat → AV} {η : Nat → Ent} {f : FuncId} {os : Array Operand} {ats : Array TypeId} {r : AV} {args : List AV} {K : Foot → Prop} (ho : o.op = .call ⟨.value (.func f), os, ats⟩) (hc : ACall C f args r) (k : K ⟨r, [], []⟩)
    (hd : InB n o.dst := by exact Nat.le_of_ble_eq_true rfl) (hargs : os.toList.map (evA τ) = args := by first | rfl | (simp [cGProgram, cGAtom, cS, cGRule, cA2_cS, cF]; done) | (repeat (first | exact rfl | refine cons_eq ?_ ?_ | exact sl_dt rfl))) (hfr : frs args := by repeat (first | exact trivial | exact fr1_eA _ | exact fr0_eA _ | exact fr1_fr (by assumption) | exact FrV.h | exact fr0_fr FrV.h | exact fr1_fr FrV.h | refine And.intro ?_ ?_)) (hr : fr1 r := by repeat (first | exact trivial | exact fr1_eA _ | exact fr0_eA _ | exact fr1_fr (by assumption) | exact FrV.h | exact fr0_fr FrV.h | exact fr1_fr FrV.h | refine And.intro ?_ ?_)) : ∃ f : Foot, LF C n o τ η f ∧ K f := ⟨_, lf_call ho hd hargs hc hfr hr, k⟩
def M_l16_DatalogSolves (g : Nat) (a0 : GProgram) : Option (Bool) :=
  ob1 (ob1 (M_stratagem_stratagemlaw16_Program_Large g a0) (fun z7 =>
    sel z7
     (ob1 (M_l16_awake g) (fun z10 =>
       some (.inr z10)))
     (ob1 (M_l16_awake g) (fun z8 =>
       sel (!z8)
        (ob1 (M_l16_awake g) (fun z9 =>
          some (.inr z9)))
        (some (.inl ()))))) : Option (Unit ⊕ Bool))
   (osum
   (fun _ => ob2 (M_datalog_Solve g a0.Facts a0.Rules) (fun z11 z12 =>
      ob2 (M_r16_Solve g a0.Facts a0.Rules) (fun z13 z14 =>
       ob1 (M_b_Num z12) (fun z15 =>
        sel (z15 == z14)
         (ob1 (M_r10_SameAtoms g z11 z13) (fun z16 =>
           some z16))
         (some false)))))
   (fun r5 => some r5))
set_option maxHeartbeats 16000000 in
set_option maxRecDepth 100000 in
theorem A_l16_DatalogSolves (g : Nat) (a0 : GProgram) {r1 : Bool} (h : M_l16_DatalogSolves g a0 = some r1) : ACall cx 4 [.agg [.sl 2 (a0.Facts.map cGAtom), .sl 4 (a0.Rules.map cGRule)]] (.c (.bool r1)) := by
  refine aOf Tryd.func4 rfl (by decide) rfl (Nat.le_of_ble_eq_true rfl) ?_; intro _; unfold M_l16_DatalogSolves at h; refine aSR ?_; intro _; refine dr_XDLSolves ?_; obtain ⟨o1, h, hK2⟩ := ob1_ok h; refine awp_cut (α := Unit) (fun _ => mkS 39 [(1, .ptr 1 0 0 0)] [(1, ⟨38, 2, true, [[.sl 2 (a0.Facts.map cGAtom), .sl 4 (a0.Rules.map cGRule)]]⟩)]) (fun v => o1 = (.inl v)) ?_ ?_
  · refine aSR ?_; intro _; obtain ⟨z7, u3, h⟩ := ob1_ok h; refine cl_XDLSolves rfl (A_stratagem_stratagemlaw16_Program_Large g a0 u3) ?_; intro _; refine spf h (fun c4 h => ?_) (fun c4 h => ?_)
    · intro _; obtain ⟨z8, u5, h⟩ := ob1_ok h; refine cl_XDLSolves rfl (A_l16_awake g u5) ?_; intro _; refine dr_XDLSolves ?_; refine aCd ?_; intro _; refine spl h (fun c6 h => ?_) (fun c6 h => ?_)
      · refine aSR ?_; intro _; obtain ⟨z9, u7, h⟩ := ob1_ok h; refine cl_XDLSolves rfl (A_l16_awake g u7) ?_; intro _; refine dr_XDLSolves ?_; refine aRt ?_; have j8 := Option.some.inj h; subst j8; replace h := (osum_r hK2); intro _; obtain rfl := inj1 h; exact ca_XDLSolves
      · refine aSk ?_; refine ⟨(), (Option.some.inj h).symm, ?_⟩; exact ca_XDLSolves
    · intro _; refine dr_XDLSolves ?_; refine aCd ?_; intro _; refine litT ?_; refine aSR ?_; intro _; obtain ⟨z10, u9, h⟩ := ob1_ok h; refine cl_XDLSolves rfl (A_l16_awake g u9) ?_; intro _; refine dr_XDLSolves ?_; refine aRt ?_; have j10 := Option.some.inj h; subst j10; replace h := (osum_r hK2); intro _; obtain rfl := inj1 h; exact ca_XDLSolves
  · rintro _ ho; have ho := ho.symm; subst ho; intro _; replace h := (osum_l hK2); refine aSR ?_; intro _; obtain ⟨z11, z12, u11, h⟩ := ob2_ok h; refine cl_XDLSolves rfl (A_datalog_Solve g a0.Facts a0.Rules u11) ?_; intro _; refine dr_XDLSolves ?_; refine aSR ?_; intro _; obtain ⟨z13, z14, u12, h⟩ := ob2_ok h; refine cl_XDLSolves rfl (A_r16_Solve g a0.Facts a0.Rules u12) ?_; intro _; refine dr_XDLSolves ?_; refine aSR ?_; intro _; obtain ⟨z15, u13, h⟩ := ob1_ok h; refine cl_XDLSolves rfl (A_b_Num z12 u13) ?_; intro _; refine spl h (fun c14 h => ?_) (fun c14 h => ?_)
    · intro _; obtain ⟨z16, u15, h⟩ := ob1_ok h; refine cl_XDLSolves rfl (A_r10_SameAtoms g z11 z13 u15) ?_; intro _; refine dr_XDLSolves ?_; refine aRt ?_; intro _; obtain rfl := inj1 h; exact ca_XDLSolves
    · intro _; refine dr_XDLSolves ?_; refine aRt ?_; intro _; obtain rfl := inj1 h; exact ca_XDLSolves
end Go.Proofs.YtflgpccacloadaaDoor.Am
/- Plain law: DatalogSolves. -/
namespace Go.Proofs.YtflgpccacloadaaDoor.Am
open Go.RowKit
/-- what the guards ask -/
structure PrgOk (p : GProgram) : Prop where
  fl : p.Facts.length ≤ 3600000000000
  rl : p.Rules.length ≤ 3600000000000
  hx : ∀ a ∈ allA p, ∀ x ∈ a.Args, isV x = false → x.size ≤ 140737488355328
theorem prg_good {p : GProgram} (h : PrgOk p) (hs : Small p) : Good p := ⟨hs, h.hx⟩
def GG : Nat := 4000000000000
theorem large_ok {p : GProgram} (h : PrgOk p) : ∃ b, M_stratagem_stratagemlaw16_Program_Large GG p = some b ∧ (b = false → Good p) := by
  obtain ⟨b, h1, h2⟩ := large_eq GG p (by decide) (Nat.le_trans h.fl (by decide)) (Nat.le_trans h.rl (by decide)) (Nat.lt_of_le_of_lt h.fl (by decide))
  exact ⟨b, h1, fun hb => prg_good h (h2 hb)⟩
theorem solves_true (p : GProgram) (h : PrgOk p) : M_l16_DatalogSolves GG p = some true := by
  obtain ⟨b, h1, h2⟩ := large_ok h
  unfold M_l16_DatalogSolves
  rw [h1, ob1_some, awake16 GG (by decide)]
  cases b with
  | true => rfl
  | false =>
    have hp := h2 rfl
    show ob2 (M_datalog_Solve GG p.Facts p.Rules) _ = _
    obtain ⟨r1, r2⟩ := res_small hp GG (by decide)
    rw [solve_good hp GG (by decide), ob2_some, rsolve_eq hp GG (by decide) (by decide), ob2_some, num_eq, ob1_some, beq_int, sel_dec, if_pos rfl]
    rw [sameAtoms_eq GG _ (by omega) (few8 (by decide) r2) (Nat.lt_of_le_of_lt r1 (by decide))]
    rfl
end Go.Proofs.YtflgpccacloadaaDoor.Am
/- Readers of programs of facts and rules, with the sizes of their strings. -/
namespace Go.Proofs.YtflgpccacloadaaDoor.Am
open Go.RowKit Go.ChangeShapes Go.WideShapes Go.Deep Go.Joins
def zA (a : GAtom) : Prop := ∀ x ∈ a.Args, x.size ≤ 140737488355328
def zAs (l : List GAtom) : Prop := l.length * 40 ≤ 140737488355328 ∧ ∀ a ∈ l, zA a
def zP (p : ByteArray × ByteArray) : Prop := p.1.size ≤ 140737488355328 ∧ p.2.size ≤ 140737488355328
def zR (r : GRule) : Prop := zA r.Head ∧ (∀ a ∈ r.Body, zA a) ∧ ∀ p ∈ r.Unequal, zP p
section
variable {H : Type} {enc : TypeId × Value → H} {w : World} {base : Nat} {spare : Nat → Bool} {held : Bool}
set_option maxRecDepth 100000 in
theorem zAtom : OpensB enc Tryd.prog w base spare held 24 cGAtom zA wA :=
  opensB_conv (fun p : ByteArray × List ByteArray => { Name := p.1, Args := p.2 : GAtom })
    (opensB_struct Tryd.underlying24
      (opensFB_cons (off' := 1) (en := fun s : ByteArray => [AV.c (.string s)]) (R := fun s => s.size ≤ 140737488355328) (wt := fun s => s.size + 1) (en' := fun l : List ByteArray => [AV.sl 1 (l.map cS)]) (R' := fun l : List ByteArray => l.length * 16 ≤ 140737488355328 ∧ ∀ s ∈ l, s.size ≤ 140737488355328) (wt' := fun l : List ByteArray => (l.map (fun s : ByteArray => s.size + 1)).sum + 1) rfl (by kernel_rfl) (opensB_str Tryd.underlying9) (opensFB_last rfl (by kernel_rfl) bStrs)))
    (fun _ => rfl) (fun _ h => h.2.2) (fun _ => Nat.le_refl _)
set_option maxRecDepth 100000 in
theorem zAtoms : OpensB enc Tryd.prog w base spare held 25 (fun l : List GAtom => [.sl 2 (l.map cGAtom)]) zAs wAs :=
  opensB_slice (sz := 2) (by_ := 40) Tryd.underlying25 (by kernel_rfl) (by kernel_rfl) (by decide) (by decide) zAtom
theorem sized_part {P : Program} {t e : TypeId} {n : Nat} {parts : List (DataW H)} (h : Sized P t (.agg parts)) (hu : P.underlying t = some (.array n e)) {d : DataW H} (hd : d ∈ parts) : Sized P e d :=
  fun n hn => h n (by
    simp only [DataW.weights, hu]
    exact weightsAll_mem hd n hn)
theorem sized_str {P : Program} {t : TypeId} {z : ByteArray} (h : Sized P t (.lit (.string z.data.toList) : DataW H)) : z.size ≤ 140737488355328 := by
  have e : z.data.toList.length = z.size := by rw [Array.length_toList]; rfl
  have h1 : z.data.toList.length ≤ 140737488355328 := Nat.le_trans (h z.data.toList.length (List.mem_singleton.2 rfl)) (by decide)
  omega
set_option maxRecDepth 100000 in
theorem zPair : OpensB enc Tryd.prog w base spare held 58 cA2_cS zP (fun p => p.1.size + p.2.size + 2) := by
  intro fuel cs x hx hsz
  obtain ⟨xs, m, _, rfl, hcl, hxl, hf⟩ := DataW.trod_array Tryd.underlying58 hx
  have hc : Tryd.prog.cellsOf 58 = 2 := by kernel_rfl
  have hi : Tryd.prog.cellsOf 9 = 1 := by kernel_rfl
  rw [hc] at hcl
  match cs, hcl, xs, hxl, hf with
  | [c0, c1], _, [x0, x1], _, hf =>
    have h0 := hf 0 (by decide)
    have h1 := hf 1 (by decide)
    rw [hi] at h0 h1
    obtain ⟨z0, e0, q0, _⟩ := DataW.trod_string Tryd.underlying9 h0
    obtain ⟨z1, e1, q1, _⟩ := DataW.trod_string Tryd.underlying9 h1
    have e0' : c0 = .string z0 := by simpa using e0
    have e1' : c1 = .string z1 := by simpa using e1
    subst e0' e1'
    have k0 : z0.data.toList.length = z0.size := by rw [Array.length_toList]; rfl
    have k1 : z1.data.toList.length = z1.size := by rw [Array.length_toList]; rfl
    refine ⟨(z0, z1), ⟨?_, ?_⟩, ?_, cells_append (cells_one1 (.c _) rfl (.c _)) (cells_one1 (.c _) rfl (.c _))⟩
    · exact sized_str (P := Tryd.prog) (t := 9) (sized_part hsz Tryd.underlying58 (by show (DataW.lit (Lit.string z0.data.toList) : DataW H) ∈ [x0.1, x1.1]; rw [q0]; exact List.mem_cons_self ..))
    · exact sized_str (P := Tryd.prog) (t := 9) (sized_part hsz Tryd.underlying58 (by show (DataW.lit (Lit.string z1.data.toList) : DataW H) ∈ [x0.1, x1.1]; rw [q1]; exact List.mem_cons_of_mem _ (List.mem_cons_self ..)))
    rw [q0, q1]
    simp only [List.map_cons, List.map_nil, Rows.uptoBulk, Rows.uptoBulkAll, k0, k1]
    omega
def zUn (l : List (ByteArray × ByteArray)) : Prop := l.length * 32 ≤ 140737488355328 ∧ ∀ p ∈ l, zP p
set_option maxRecDepth 100000 in
theorem zUns : OpensB enc Tryd.prog w base spare held 26 (fun l : List (ByteArray × ByteArray) => [.sl 2 (l.map cA2_cS)]) zUn wUn :=
  opensB_slice (sz := 2) (by_ := 32) Tryd.underlying26 (by kernel_rfl) (by kernel_rfl) (by decide) (by decide) zPair
set_option maxRecDepth 100000 in
theorem zRule : OpensB enc Tryd.prog w base spare held 28 cGRule zR wR :=
  opensB_conv (fun p : GAtom × (List GAtom × List (ByteArray × ByteArray)) => { Head := p.1, Body := p.2.1, Unequal := p.2.2 : GRule })
    (opensB_struct Tryd.underlying28
      (opensFB_cons (off' := 2) (en := cGAtom) (R := zA) (wt := wA) (en' := fun p : List GAtom × List (ByteArray × ByteArray) => [AV.sl 2 (p.1.map cGAtom)] ++ [AV.sl 2 (p.2.map cA2_cS)]) (R' := fun p => zAs p.1 ∧ zUn p.2) (wt' := fun p => wAs p.1 + wUn p.2) rfl (by kernel_rfl) zAtom
        (opensFB_cons (off' := 3) (en := fun l : List GAtom => [AV.sl 2 (l.map cGAtom)]) (R := zAs) (wt := wAs) (en' := fun l : List (ByteArray × ByteArray) => [AV.sl 2 (l.map cA2_cS)]) (R' := zUn) (wt' := wUn) rfl (by kernel_rfl) zAtoms (opensFB_last rfl (by kernel_rfl) zUns))))
    (fun _ => rfl) (fun _ h => ⟨h.1, h.2.1.2, h.2.2.2⟩) (fun _ => Nat.le_refl _)
def zRs (l : List GRule) : Prop := l.length * 88 ≤ 140737488355328 ∧ ∀ r ∈ l, zR r
def wRs (l : List GRule) : Nat := (l.map wR).sum + 1
set_option maxRecDepth 100000 in
theorem zRules : OpensB enc Tryd.prog w base spare held 36 (fun l : List GRule => [.sl 4 (l.map cGRule)]) zRs wRs :=
  opensB_slice (sz := 4) (by_ := 88) Tryd.underlying36 (by kernel_rfl) (by kernel_rfl) (by decide) (by decide) zRule
set_option maxRecDepth 100000 in
theorem zProg : OpensB enc Tryd.prog w base spare held 38 cGProgram (fun p => zAs p.Facts ∧ zRs p.Rules) (fun p => wAs p.Facts + wRs p.Rules) :=
  opensB_conv (fun p : List GAtom × List GRule => { Facts := p.1, Rules := p.2 : GProgram })
    (opensB_struct Tryd.underlying38
      (opensFB_cons (off' := 1) (en := fun l : List GAtom => [AV.sl 2 (l.map cGAtom)]) (R := zAs) (wt := wAs) (en' := fun l : List GRule => [AV.sl 4 (l.map cGRule)]) (R' := zRs) (wt' := wRs) rfl (by kernel_rfl) zAtoms (opensFB_last rfl (by kernel_rfl) zRules)))
    (fun _ => rfl) (fun _ h => h) (fun _ => Nat.le_refl _)
end
theorem prgOk_of {p : GProgram} (h1 : zAs p.Facts) (h2 : zRs p.Rules) : PrgOk p := by
  refine ⟨by have := h1.1; omega, by have := h2.1; omega, fun a ha x hx _ => ?_⟩
  rcases List.mem_append.1 ha with q | q
  · exact h1.2 a q x hx
  · obtain ⟨r, hr, q⟩ := List.mem_flatMap.1 q
    rcases List.mem_cons.1 q with e | e
    · rw [e] at hx; exact (h2.2 r hr).1 x hx
    · exact (h2.2 r hr).2.1 a e x hx
end Go.Proofs.YtflgpccacloadaaDoor.Am
/- What the listed package-level variables hold, as cells, for the witness. -/
namespace Go.Proofs.YtflgpccacloadaaDoor
open Go.ChangeShapes Go.WideShapes Go.ChangeAt Go.RowKit
theorem own : ownKnob Tryd.prog.godebug = none := by kernel_rfl
theorem laidOut : laidOutB Tryd.prog = true := by kernel_rfl
def tab32 : Array Value := #[.int .u8 0, .int .u8 1, .int .u8 28, .int .u8 2, .int .u8 29, .int .u8 14, .int .u8 24, .int .u8 3, .int .u8 30, .int .u8 22, .int .u8 20, .int .u8 15, .int .u8 25, .int .u8 17, .int .u8 4, .int .u8 8, .int .u8 31, .int .u8 27, .int .u8 13, .int .u8 23, .int .u8 21, .int .u8 19, .int .u8 16, .int .u8 7, .int .u8 26, .int .u8 12, .int .u8 18, .int .u8 6, .int .u8 11, .int .u8 5, .int .u8 10, .int .u8 9]
def tab64 : Array Value := #[.int .u8 0, .int .u8 1, .int .u8 56, .int .u8 2, .int .u8 57, .int .u8 49, .int .u8 28, .int .u8 3, .int .u8 61, .int .u8 58, .int .u8 42, .int .u8 50, .int .u8 38, .int .u8 29, .int .u8 17, .int .u8 4, .int .u8 62, .int .u8 47, .int .u8 59, .int .u8 36, .int .u8 45, .int .u8 43, .int .u8 51, .int .u8 22, .int .u8 53, .int .u8 39, .int .u8 33, .int .u8 30, .int .u8 24, .int .u8 18, .int .u8 12, .int .u8 5, .int .u8 63, .int .u8 55, .int .u8 48, .int .u8 27, .int .u8 60, .int .u8 41, .int .u8 37, .int .u8 16, .int .u8 46, .int .u8 35, .int .u8 44, .int .u8 21, .int .u8 52, .int .u8 32, .int .u8 23, .int .u8 11, .int .u8 54, .int .u8 26, .int .u8 40, .int .u8 15, .int .u8 34, .int .u8 20, .int .u8 31, .int .u8 10, .int .u8 25, .int .u8 14, .int .u8 19, .int .u8 9, .int .u8 13, .int .u8 8, .int .u8 7, .int .u8 6]
def tabPow : Array Value := #[.int .u64 1, .int .u64 10, .int .u64 100, .int .u64 1000, .int .u64 10000, .int .u64 100000, .int .u64 1000000, .int .u64 10000000, .int .u64 100000000, .int .u64 1000000000, .int .u64 10000000000, .int .u64 100000000000, .int .u64 1000000000000, .int .u64 10000000000000, .int .u64 100000000000000, .int .u64 1000000000000000, .int .u64 10000000000000000, .int .u64 100000000000000000, .int .u64 1000000000000000000, .int .u64 10000000000000000000]

def putCells (cs : Array Value) : Obj → Obj
  | .cells _ t frozen => .cells cs t frozen
  | o => o
/-- A world for the witnesses: the settled one, the tables holding what their initialisers lay. -/
noncomputable def laidWorld (os : Os) : World :=
  { World.holding Tryd.prog os ⟨#[], #[], []⟩ with heap := (((World.holding Tryd.prog os ⟨#[], #[], []⟩).heap.modify 0 (putCells tabPow)).modify 1 (putCells tab32)).modify 2 (putCells tab64) }
end Go.Proofs.YtflgpccacloadaaDoor
/- stratagemlaw16.DatalogSolves returns true for every input. No condition beyond the card's own. -/
namespace Go.Proofs.YtflgpccacloadaaDoor.rowSolves
open Go.ChangeShapes Go.WideShapes Go.ChangeAt Go.RowKit Am

theorem table {W : World} (h : laidMetH Tryd.prog Rows.datalogSolvesRow.laid W) : TabOk W := by
  obtain ⟨ps, ⟨_, _, _, _, _, _, _, _, _, _, ⟨_, _, _, _, _, _, _, _, _, _, hr, _⟩, _⟩, _⟩ := h
  obtain ⟨g', t', cs, fuel, p, q, hg', ht', hvar, hd, _, _⟩ := hr
  obtain rfl := Option.some.inj (gPow.symm.trans hg')
  obtain rfl := Option.some.inj ((show (Tryd.prog.globals[0]?).map (·.type) = some 152 by kernel_rfl).symm.trans ht')
  unfold TabOk Lib.TabIs
  rw [hvar, ← Lib.cells_of_tab (zs := Lib.pow10Tab) Tryd.underlying152 Tryd.underlying134 (by kernel_rfl) (by kernel_rfl) hd]
set_option maxRecDepth 100000 in
theorem contract (H : Type) (enc : TypeId × Value → H) (W : World) (base : Nat) (args : Array Value) (ds gs : List (DataW H)) (before : List MemPlace)
    (hval : ∀ (j : Nat) t v, Tryd.f4.params[j]? = some t → args[j]? = some v → Value.okWide Tryd.prog W .any base t v)
    (hW : DataW.Whole enc Tryd.prog Tryd.f4.params.toList Rows.datalogSolvesSpec.vars false W args.toList ds gs before) (hL : laidMetH Tryd.prog Rows.datalogSolvesRow.laid W)
    (hsz : (DataW.weightsEach Tryd.prog (Tryd.f4.params.toList ++ (OpenSpec.ofChange Rows.datalogSolvesSpec).bare.plain.varTypes Tryd.prog) (ds ++ gs)).all (· ≤ reachBytes) = true) :
    Calls Tryd.prog 4 args W fun e W' => ∃ v, e = .returned v ∧ Rows.datalogSolvesSpec.post enc Tryd.prog Tryd.f4 false true false false W args v W' := by
  have hW' := hW
  obtain ⟨p, q, hA0, hV, rfl, hfz, hnd⟩ := hW
  have hA : DataW.TrodAll enc Tryd.prog W 0 (fun _ => true) true Tryd.f4.params.toList args.toList ds p := hA0
  rw [Tryd.params4] at hA hval
  obtain ⟨v0, vs0, d0, ds0, p0, q0, hargs, rfl, rfl, h0, r0⟩ := trodAll_cons hA
  obtain ⟨rfl, rfl, rfl⟩ := trodAll_nil r0
  obtain rfl : args = #[v0] := Array.ext' hargs
  obtain ⟨rfl, rfl⟩ := trodVars_none hV
  simp only [List.append_nil] at hW' hA0 hsz
  rw [Tryd.params4] at hsz
  obtain ⟨p, hb, _, k0⟩ := arg_structB Tryd.underlying38 (hval 0 38 v0 rfl rfl) zProg h0 (sized_arg hsz (j := 0) rfl rfl)
  refine (law_of (A_l16_DatalogSolves GG p (solves_true p (prgOk_of hb.1 hb.2))) ⟨table hL, trivial⟩ rfl (fun j x v hx hv => ?_)).mono fun e W' ⟨he, hb⟩ => ?_
  · match j, hx, hv with
    | 0, hx, hv => simp at hx hv; subst hx hv; exact k0
    | j + 1, hx, hv => simp at hx
  · subst he
    exact ⟨_, rfl, law_post laidOut rfl (by kernel_rfl) Tryd.underlying4 (by kernel_rfl) hW' hA0 rfl rfl rfl hb⟩
theorem laid_met (os : Os) : laidMet Tryd.prog Rows.datalogSolvesRow.laid ((laidWorld os).forCall (fun _ _ => 0) ⟨#[], #[.agg #[.slice none 0 0, .slice none 0 0]], []⟩).memory :=
  laidMet_of_run' 8 (by kernel_rfl) (by kernel_rfl)
theorem reads (os : Os) {H : Type} (enc : TypeId × Value → H) : ∃ places, DataW.whole enc Tryd.prog ((laidWorld os).forCall (fun _ _ => 0) ⟨#[], #[.agg #[.slice none 0 0, .slice none 0 0]], []⟩).memory Tryd.f4.params.toList Rows.datalogSolvesSpec.vars false (#[.agg #[.slice none 0 0, .slice none 0 0]] : Array Value).toList 8 = some ([.agg [.nil, .nil]], [], places) :=
  ⟨[], by kernel_rfl⟩

set_option maxRecDepth 100000 in
theorem lifted (os : Os) (started : os.Started) (H : Type) (enc : TypeId × Value → H) (F : Stop.Interp) :
    ReturnsInHanded {} Tryd.checked os 4 .any ((OpenSpec.ofChange Rows.datalogSolvesSpec).preRow enc Tryd.prog Tryd.f4 Rows.datalogSolvesRow.domain false Rows.datalogSolvesRow.laid) (((OpenSpec.ofChange Rows.datalogSolvesSpec).at F).post enc Tryd.prog Tryd.f4 false true false false) := by
  obtain ⟨places, hx⟩ := reads os enc
  refine returnsInHanded_of_row (C := Tryd.checked) (s := OpenSpec.ofChange Rows.datalogSolvesSpec) own started (by kernel_rfl) Tryd.func4
    (witness_row_at (enc := enc) (C := Tryd.checked) false (laidWorld os) #[.agg #[.slice none 0 0, .slice none 0 0]] rfl (by kernel_rfl) (by kernel_rfl) (by kernel_rfl)
      (OpenSpec.preRow_of_cond 8 hx (by kernel_rfl) (fun k hk => by cases hk) (by kernel_rfl) (laid_met os))) ?_
  intro W base args ds gs before hval hW _ _ hsz hL _ _
  exact contract H enc W base args ds gs before hval hW hL hsz

theorem said : Rows.DatalogSolvesSaid :=
  OpenClaim.holds_of_cond 4 Tryd.f4 rfl rfl rfl rfl rfl rfl rfl ⟨rfl, rfl, rfl, rfl, rfl⟩ rfl rfl rfl rfl rfl (by kernel_rfl) Tryd.func4 (by kernel_rfl)
    (of_decide_eq_true (by kernel_rfl)) (by unfold Func.isWrapper; first | (rw [if_pos (by decide +kernel)]; kernel_rfl) | (rw [if_neg (by decide +kernel)]; exact ⟨rfl, rfl⟩))
    (fun os started H enc _ F => by rw [OpenClaim.pre_eq_preRow]; exact lifted os started H enc F)

theorem plain (f : FuncId) (fn : Func) (hf : Tryd.pinned.checked.prog.funcNamed Rows.datalogSolvesRow.func = some f) (hfn : Tryd.pinned.checked.prog.funcs[f]? = some fn) :
    true = Tryd.pinned.checked.prog.looks [] ∧ ∀ (j : Nat) t, fn.params[j]? = some t → Tryd.pinned.checked.prog.wantsStandIn t = false := by
  obtain rfl : f = 4 := Option.some.inj ((show Tryd.prog.funcNamed Rows.datalogSolvesRow.func = some 4 by kernel_rfl).symm.trans hf) |>.symm
  obtain rfl : fn = Tryd.f4 := (Option.some.inj (Tryd.func4.symm.trans hfn)).symm
  refine ⟨by kernel_rfl, fun j t ht => ?_⟩
  have hall : Tryd.f4.params.toList.all (fun t => !Tryd.prog.wantsStandIn t) = true := by kernel_rfl
  have := List.all_eq_true.1 hall t (by simpa using Array.mem_of_getElem? ht)
  have h2 : Tryd.prog.wantsStandIn t = false := by simpa using this
  exact h2

/-- THE CARD: stratagemlaw16's statement holds. -/
theorem card : Rows.DatalogSolvesCardSaid :=
  Claim7.holds_tied_plain_at .later [] _ _ _ _ said (fun _ h => by cases h) (by kernel_rfl) (fun _ h => by cases h) datalogSolves_row_tie rfl ⟨rfl, rfl⟩ (by kernel_rfl) rfl plain (by kernel_rfl)
end Go.Proofs.YtflgpccacloadaaDoor.rowSolves
