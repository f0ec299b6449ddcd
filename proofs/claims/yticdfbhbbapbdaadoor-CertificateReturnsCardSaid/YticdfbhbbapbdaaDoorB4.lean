/- Texts of the proof, part 4 of 5. -/
import Derived.Test.YticdfbhbbapbdaaDoorB1
import Derived.Test.YticdfbhbbapbdaaDoorB3
import Derived.Lib.ItoaLen
import Derived.Test.YticdfbhbbapbdaaDoorB2
import Derived.Lib.Builder
import Derived.Lib.AppendStr
import Derived.Lib.UnsafeStr
import Derived.Laws.Externs
import Derived.Lib.SmallJoins
import Derived.Deep.RegionHeld3
import Derived.Lib.AppendIntMem
import Derived.WalkKit
import Derived.Shelf.Strings.Builder1
import Derived.Lib.SplitLaws
import Derived.Lib.IndexMore
/- task.Holds, stratagembase.Holds: has a state all facts of a list? -/
namespace Go.Proofs.YticdfbhbbapbdaaDoor
open Go.RowKit

def badH (s : List Int) (x y : Int) : Bool := decide (x < 0) || decide ((s.length : Int) ≤ x) || (s.getD x.toNat 0 != y)
def holdsF (l : List Fact) (s : List Int) : Bool := l.all fun x => !badH s x.1 x.2

set_option maxHeartbeats 1000000 in
theorem holds_calls (v sv : Value) (fs : List Fact) (s : List Int) (w : World) (hv : FactsAt w v fs) (hs : IntsAt w sv s) :
    Calls Tryd.prog 38 #[v, sv] w fun e w' => e = .returned (.bool (holdsF fs s)) ∧ Below w.heap.size w w' := by
  obtain ⟨A, n, c, rfl, hn, hm⟩ := hv.form
  obtain ⟨sA, sn, sc, rfl, hsn, hsm⟩ := hs.form
  have HV := Lib.hid hv
  have HN := Lib.hid hn
  have HS := Lib.hid hs
  have HSN := Lib.hid hsn
  clear hv hn hs hsn
  go_enter Tryd.func38, Tryd.ntmps38
  go_wp2
  go_loopg [9] n (fun g i wr => ∃ k : Nat, k ≤ n ∧ g = n - k ∧ i = .int .i64 k ∧ Below w.heap.size w wr ∧ holdsF fs s = holdsF (fs.drop k) s)
  case atStart => exact ⟨0, Nat.zero_le _, by omega, rfl, Below.refl _ _, rfl⟩
  case round =>
    obtain ⟨k, hk, hg, rfl, hB, hF⟩ := hrel
    have HG := Lib.hid hg
    have HF := Lib.hid hF
    clear hg hF
    by_cases hlt : k < n
    · obtain ⟨b, off, x, y, rfl, c0, c1, hx, hd⟩ := (HV.out.keep hB).at hlt
      have hbr : b < wr.heap.size := lt_of_cell c0
      have HX := Lib.hid hx
      have HD := Lib.hid hd
      clear hx hd
      go_upto_region 4 with fail
      go_cut [32] (fun t wx => t = .bool (badH s x y) ∧ Below w.heap.size w wx)
      case first =>
        by_cases hx0 : x < 0
        · refine wp_region_quiet_lit (by kernel_rfl) (by kernel_rfl) ?_
          repeat (any_goals (first | go_big_quiet_step (fail) | quiet_step (fail) | (refine wpQuiet_step (fun K hK => ?_); go_simp; split <;> (refine hK _ ?_; clear hK K))))
          all_goals (refine wpQuiet_nil ?_; intro _ hw'; obtain ⟨nq, hw''⟩ := hw'; subst hw'')
          all_goals (go_wp2_with fail; go_meet; exact ⟨by simp [badH, hx0], below_drewN (belowA hB _) _⟩)
        · have hx0' : 0 ≤ x := by omega
          by_cases hx1 : x < sn
          · obtain ⟨sb, so, z, rfl, sc0, hz⟩ := (HS.out.keep hB).num hx0' hx1
            have hsbr : sb < wr.heap.size := lt_of_cell sc0
            have hbad : badH s x y = (z != y) := by
              have := HSN.out
              have e1 : decide (x < 0) = false := by simpa using hx0'
              have e2 : decide ((s.length : Int) ≤ x) = false := by simp; omega
              simp only [badH, e1, e2, hz, Bool.false_or]
            have HZ := Lib.hid hz
            have HBAD := Lib.hid hbad
            clear hz hbad
            refine wp_region_quiet_lit (by kernel_rfl) (by kernel_rfl) ?_
            repeat (any_goals (first | go_big_quiet_step (fail) | quiet_step (fail) | (refine wpQuiet_step (fun K hK => ?_); go_simp; split <;> (refine hK _ ?_; clear hK K))))
            all_goals (refine wpQuiet_nil ?_; intro _ hw'; obtain ⟨nq, hw''⟩ := hw'; subst hw'')
            all_goals (go_wp2_with fail; go_meet; exact ⟨by rw [HBAD.out, Value.bool.injEq, Bool.eq_iff_iff]; simp; omega, below_drewN (belowA hB _) _⟩)
          · have hx1' : (sn : Int) ≤ x := by omega
            have hbad : badH s x y = true := by
              have := HSN.out
              have e2 : decide ((s.length : Int) ≤ x) = true := by simp; omega
              simp only [badH, e2, Bool.or_true, Bool.true_or]
            have HBAD := Lib.hid hbad
            clear hbad
            refine wp_region_quiet_lit (by kernel_rfl) (by kernel_rfl) ?_
            repeat (any_goals (first | go_big_quiet_step (fail) | quiet_step (fail) | (refine wpQuiet_step (fun K hK => ?_); go_simp; split <;> (refine hK _ ?_; clear hK K))))
            all_goals (refine wpQuiet_nil ?_; intro _ hw'; obtain ⟨nq, hw''⟩ := hw'; subst hw'')
            all_goals (go_wp2_with fail; go_meet; exact ⟨by rw [HBAD.out], below_drewN (belowA hB _) _⟩)
      case rest =>
        obtain ⟨rfl, hB'⟩ := hcut
        cases hbad : badH s x y
        · go_wp2
          go_roundg (n - (k + 1))
          case measure => have := HG.out; omega
          case rel => exact ⟨k + 1, by omega, rfl, by go_num, hB', by rw [HF.out, HD.out]; simp [holdsF, hbad]⟩
        · go_wp2
          go_ret
          exact ⟨by rw [HF.out, HD.out]; simp [holdsF, hbad], hB'⟩
    · go_wp2
      go_ret
      exact ⟨by rw [HF.out, List.drop_eq_nil_of_le (by have := HN.out; omega)]; rfl, hB⟩
set_option maxHeartbeats 1000000 in
theorem bholds_calls (v sv : Value) (fs : List Fact) (s : List Int) (w : World) (hv : FactsAt w v fs) (hs : IntsAt w sv s) :
    Calls Tryd.prog 39 #[v, sv] w fun e w' => e = .returned (.bool (holdsF fs s)) ∧ Below w.heap.size w w' := by
  obtain ⟨A, n, c, rfl, hn, hm⟩ := hv.form
  obtain ⟨sA, sn, sc, rfl, hsn, hsm⟩ := hs.form
  have HV := Lib.hid hv
  have HN := Lib.hid hn
  have HS := Lib.hid hs
  have HSN := Lib.hid hsn
  clear hv hn hs hsn
  go_enter Tryd.func39, Tryd.ntmps39
  go_wp2
  go_loopg [9] n (fun g i wr => ∃ k : Nat, k ≤ n ∧ g = n - k ∧ i = .int .i64 k ∧ Below w.heap.size w wr ∧ holdsF fs s = holdsF (fs.drop k) s)
  case atStart => exact ⟨0, Nat.zero_le _, by omega, rfl, Below.refl _ _, rfl⟩
  case round =>
    obtain ⟨k, hk, hg, rfl, hB, hF⟩ := hrel
    have HG := Lib.hid hg
    have HF := Lib.hid hF
    clear hg hF
    by_cases hlt : k < n
    · obtain ⟨b, off, x, y, rfl, c0, c1, hx, hd⟩ := (HV.out.keep hB).at hlt
      have hbr : b < wr.heap.size := lt_of_cell c0
      have HX := Lib.hid hx
      have HD := Lib.hid hd
      clear hx hd
      go_upto_region 4 with fail
      go_cut [32] (fun t wx => t = .bool (badH s x y) ∧ Below w.heap.size w wx)
      case first =>
        by_cases hx0 : x < 0
        · refine wp_region_quiet_lit (by kernel_rfl) (by kernel_rfl) ?_
          repeat (any_goals (first | go_big_quiet_step (fail) | quiet_step (fail) | (refine wpQuiet_step (fun K hK => ?_); go_simp; split <;> (refine hK _ ?_; clear hK K))))
          all_goals (refine wpQuiet_nil ?_; intro _ hw'; obtain ⟨nq, hw''⟩ := hw'; subst hw'')
          all_goals (go_wp2_with fail; go_meet; exact ⟨by simp [badH, hx0], below_drewN (belowA hB _) _⟩)
        · have hx0' : 0 ≤ x := by omega
          by_cases hx1 : x < sn
          · obtain ⟨sb, so, z, rfl, sc0, hz⟩ := (HS.out.keep hB).num hx0' hx1
            have hsbr : sb < wr.heap.size := lt_of_cell sc0
            have hbad : badH s x y = (z != y) := by
              have := HSN.out
              have e1 : decide (x < 0) = false := by simpa using hx0'
              have e2 : decide ((s.length : Int) ≤ x) = false := by simp; omega
              simp only [badH, e1, e2, hz, Bool.false_or]
            have HZ := Lib.hid hz
            have HBAD := Lib.hid hbad
            clear hz hbad
            refine wp_region_quiet_lit (by kernel_rfl) (by kernel_rfl) ?_
            repeat (any_goals (first | go_big_quiet_step (fail) | quiet_step (fail) | (refine wpQuiet_step (fun K hK => ?_); go_simp; split <;> (refine hK _ ?_; clear hK K))))
            all_goals (refine wpQuiet_nil ?_; intro _ hw'; obtain ⟨nq, hw''⟩ := hw'; subst hw'')
            all_goals (go_wp2_with fail; go_meet; exact ⟨by rw [HBAD.out, Value.bool.injEq, Bool.eq_iff_iff]; simp; omega, below_drewN (belowA hB _) _⟩)
          · have hx1' : (sn : Int) ≤ x := by omega
            have hbad : badH s x y = true := by
              have := HSN.out
              have e2 : decide ((s.length : Int) ≤ x) = true := by simp; omega
              simp only [badH, e2, Bool.or_true, Bool.true_or]
            have HBAD := Lib.hid hbad
            clear hbad
            refine wp_region_quiet_lit (by kernel_rfl) (by kernel_rfl) ?_
            repeat (any_goals (first | go_big_quiet_step (fail) | quiet_step (fail) | (refine wpQuiet_step (fun K hK => ?_); go_simp; split <;> (refine hK _ ?_; clear hK K))))
            all_goals (refine wpQuiet_nil ?_; intro _ hw'; obtain ⟨nq, hw''⟩ := hw'; subst hw'')
            all_goals (go_wp2_with fail; go_meet; exact ⟨by rw [HBAD.out], below_drewN (belowA hB _) _⟩)
      case rest =>
        obtain ⟨rfl, hB'⟩ := hcut
        cases hbad : badH s x y
        · go_wp2
          go_roundg (n - (k + 1))
          case measure => have := HG.out; omega
          case rel => exact ⟨k + 1, by omega, rfl, by go_num, hB', by rw [HF.out, HD.out]; simp [holdsF, hbad]⟩
        · go_wp2
          go_ret
          exact ⟨by rw [HF.out, HD.out]; simp [holdsF, hbad], hB'⟩
    · go_wp2
      go_ret
      exact ⟨by rw [HF.out, List.drop_eq_nil_of_le (by have := HN.out; omega)]; rfl, hB⟩

end Go.Proofs.YticdfbhbbapbdaaDoor
/- task.Facts, stratagembase.Proper: is a list of facts proper? -/
namespace Go.Proofs.YticdfbhbbapbdaaDoor
open Go.RowKit

def badP (vars : List Int) (last x y : Int) : Bool := decide (x ≤ last) || decide ((vars.length : Int) ≤ x) || decide (y < 0) || decide (vars.getD x.toNat 0 ≤ y)
def propL (vars : List Int) : Int → List Fact → Bool
  | _, [] => true
  | last, (x, y) :: r => if badP vars last x y then false else propL vars x r
def propF (vars : List Int) (l : List Fact) : Bool := propL vars (-1) l

set_option maxHeartbeats 1000000 in
theorem facts_calls (sv v : Value) (s : List Int) (fs : List Fact) (w : World) (hs : IntsAt w sv s) (hv : FactsAt w v fs) :
    Calls Tryd.prog 40 #[sv, v] w fun e w' => e = .returned (.bool (propF s fs)) ∧ Below w.heap.size w w' := by
  obtain ⟨A, n, c, rfl, hn, hm⟩ := hv.form
  obtain ⟨sA, sn, sc, rfl, hsn, hsm⟩ := hs.form
  have HV := Lib.hid hv
  have HN := Lib.hid hn
  have HS := Lib.hid hs
  have HSN := Lib.hid hsn
  clear hv hn hs hsn
  go_enter Tryd.func40, Tryd.ntmps40
  go_wp2
  go_loopg [5, 10] n (fun g t i wr => ∃ (k : Nat) (last : Int), k ≤ n ∧ g = n - k ∧ t = .int .i64 last ∧ i = .int .i64 k ∧ -1 ≤ last ∧ Below w.heap.size w wr ∧ propF s fs = propL s last (fs.drop k))
  case atStart => exact ⟨0, -1, Nat.zero_le _, by omega, rfl, rfl, by omega, Below.refl _ _, rfl⟩
  case round =>
    obtain ⟨k, last, hk, hg, rfl, rfl, hla, hB, hF⟩ := hrel
    have HG := Lib.hid hg
    have HF := Lib.hid hF
    clear hg hF
    by_cases hlt : k < n
    · obtain ⟨b, off, x, y, rfl, c0, c1, hx, hd⟩ := (HV.out.keep hB).at hlt
      have hbr : b < wr.heap.size := lt_of_cell c0
      have HX := Lib.hid hx
      have HD := Lib.hid hd
      clear hx hd
      go_upto_region 5 with fail
      go_cut [39] (fun t wx => t = .bool (badP s last x y) ∧ Below wr.heap.size wr wx ∧ wx.cell? ⟨wr.heap.size, 0, none⟩ = some (.int .i64 x))
      case first =>
        by_cases hx0 : x ≤ last
        · refine wp_region_quiet_lit (by kernel_rfl) (by kernel_rfl) ?_
          repeat (any_goals (first | go_big_quiet_step (fail) | quiet_step (fail) | (refine wpQuiet_step (fun K hK => ?_); go_simp; split <;> (refine hK _ ?_; clear hK K))))
          all_goals (refine wpQuiet_nil ?_; intro _ hw'; obtain ⟨nq, hw''⟩ := hw'; subst hw'')
          all_goals (go_wp2_with fail; go_meet; exact ⟨by simp [badP, hx0], below_drewN (belowA (Below.refl _ _) _) _, by simp⟩)
        · have hx0' : last < x := by omega
          by_cases hx1 : x < sn
          · obtain ⟨sb, so, z, rfl, sc0, hz⟩ := (HS.out.keep hB).num (x := x) (by omega) hx1
            have hsbr : sb < wr.heap.size := lt_of_cell sc0
            have hbad : badP s last x y = (decide (y < 0) || decide (z ≤ y)) := by
              have := HSN.out
              have e1 : decide (x ≤ last) = false := by simpa using hx0'
              have e2 : decide ((s.length : Int) ≤ x) = false := by simp; omega
              simp only [badP, e1, e2, hz, Bool.false_or]
            have hx00 : 0 ≤ x := by omega
            have HZ := Lib.hid hz
            have HBAD := Lib.hid hbad
            clear hz hbad
            refine wp_region_quiet_lit (by kernel_rfl) (by kernel_rfl) ?_
            repeat (any_goals (first | go_big_quiet_step (fail) | quiet_step (fail) | (refine wpQuiet_step (fun K hK => ?_); go_simp; split <;> (refine hK _ ?_; clear hK K))))
            all_goals (refine wpQuiet_nil ?_; intro _ hw'; obtain ⟨nq, hw''⟩ := hw'; subst hw'')
            all_goals (go_wp2_with fail; go_meet; exact ⟨by rw [HBAD.out, Value.bool.injEq, Bool.eq_iff_iff]; simp; omega, below_drewN (belowA (Below.refl _ _) _) _, by simp⟩)
          · have hx1' : (sn : Int) ≤ x := by omega
            have hbad : badP s last x y = true := by
              have := HSN.out
              have e2 : decide ((s.length : Int) ≤ x) = true := by simp; omega
              simp only [badP, e2, Bool.or_true, Bool.true_or]
            have HBAD := Lib.hid hbad
            clear hbad
            refine wp_region_quiet_lit (by kernel_rfl) (by kernel_rfl) ?_
            repeat (any_goals (first | go_big_quiet_step (fail) | quiet_step (fail) | (refine wpQuiet_step (fun K hK => ?_); go_simp; split <;> (refine hK _ ?_; clear hK K))))
            all_goals (refine wpQuiet_nil ?_; intro _ hw'; obtain ⟨nq, hw''⟩ := hw'; subst hw'')
            all_goals (go_wp2_with fail; go_meet; exact ⟨by rw [HBAD.out], below_drewN (belowA (Below.refl _ _) _) _, by simp⟩)
      case rest =>
        obtain ⟨rfl, hB', hc0⟩ := hcut
        cases hbad : badP s last x y
        · go_wp2
          go_roundg (n - (k + 1))
          case measure => have := HG.out; omega
          case rel => exact ⟨k + 1, x, by omega, rfl, rfl, by go_num, by simp [badP] at hbad; omega, belowT hB hB', by rw [HF.out, HD.out, propL, hbad]; rfl⟩
        · go_wp2
          go_ret
          exact ⟨by rw [HF.out, HD.out, propL, hbad]; rfl, belowT hB hB'⟩
    · go_wp2
      go_ret
      exact ⟨by rw [HF.out, List.drop_eq_nil_of_le (by have := HN.out; omega)]; rfl, hB⟩

def badQ (vars : List Int) (x y p : Int) (k : Nat) : Bool := decide (x < 0) || decide ((vars.length : Int) ≤ x) || decide (y < 0) || decide (vars.getD x.toNat 0 ≤ y) || (decide (0 < k) && decide (x ≤ p))
def propQ (vars : List Int) : Nat → Int → List Fact → Bool
  | _, _, [] => true
  | k, p, (x, y) :: r => if badQ vars x y p k then false else propQ vars (k + 1) x r
theorem propQ_eq (vars : List Int) (l : List Fact) : ∀ (k : Nat) (p : Int), 0 < k → 0 ≤ p → propQ vars k p l = propL vars p l := by
  induction l with
  | nil => intro k p _ _; rfl
  | cons z r ih =>
    obtain ⟨x, y⟩ := z
    intro k p hk hp
    have hb : badQ vars x y p k = badP vars p x y := by rw [Bool.eq_iff_iff]; simp [badQ, badP]; omega
    rw [propQ, propL, hb]
    cases hbb : badP vars p x y
    · simp [badP] at hbb
      rw [if_neg (by simp), if_neg (by simp), ih _ _ (by omega) (by omega)]
    · rfl
theorem propQ_propF (vars : List Int) (l : List Fact) : propQ vars 0 0 l = propF vars l := by
  cases l with
  | nil => rfl
  | cons z r =>
    obtain ⟨x, y⟩ := z
    have hb : badQ vars x y 0 0 = badP vars (-1) x y := by rw [Bool.eq_iff_iff]; simp [badQ, badP]; omega
    rw [propF, propQ, propL, hb]
    cases hbb : badP vars (-1) x y
    · simp [badP] at hbb
      rw [if_neg (by simp), if_neg (by simp), propQ_eq _ _ _ _ (by omega) (by omega)]
    · rfl

set_option maxHeartbeats 2000000 in
theorem bproper_calls (sv v : Value) (s : List Int) (fs : List Fact) (w : World) (hs : IntsAt w sv s) (hv : FactsAt w v fs) :
    Calls Tryd.prog 41 #[sv, v] w fun e w' => e = .returned (.bool (propF s fs)) ∧ Below w.heap.size w w' := by
  obtain ⟨A, n, c, rfl, hn, hm⟩ := hv.form
  obtain ⟨sA, sn, sc, rfl, hsn, hsm⟩ := hs.form
  have HV := Lib.hid hv
  have HN := Lib.hid hn
  have HS := Lib.hid hs
  have HSN := Lib.hid hsn
  clear hv hn hs hsn
  go_enter Tryd.func41, Tryd.ntmps41
  go_wp2
  go_loopg [9] n (fun g i wr => ∃ (k : Nat) (p : Int), k ≤ n ∧ g = n - k ∧ i = .int .i64 k ∧ Below w.heap.size w wr ∧ (∀ q, 0 < k → fs[k - 1]? = some q → p = q.1) ∧ propF s fs = propQ s k p (fs.drop k))
  case atStart => exact ⟨0, 0, Nat.zero_le _, by omega, rfl, Below.refl _ _, fun _ h => absurd h (by omega), (propQ_propF s fs).symm⟩
  case round =>
    obtain ⟨k, p, hk, hg, rfl, hB, hp, hF⟩ := hrel
    have HG := Lib.hid hg
    have HF := Lib.hid hF
    have HP := Lib.hid hp
    clear hg hF hp
    by_cases hlt : k < n
    · obtain ⟨b, off, x, y, rfl, c0, c1, hx, hd⟩ := (HV.out.keep hB).at hlt
      have hbr : b < wr.heap.size := lt_of_cell c0
      have HX := Lib.hid hx
      have HD := Lib.hid hd
      clear hx hd
      have hprev : 0 < k → wr.cell? ⟨b, off + (k - 1) * 2, none⟩ = some (.int .i64 p) := by
        intro hk0
        obtain ⟨b', off', x', y', hA', p0, _, hx', _⟩ := (HV.out.keep hB).at (k := k - 1) (by omega)
        injection hA' with hA'
        injection hA' with hb' ho'
        subst hb' ho'
        have hpx := HP.out _ hk0 hx'
        simp only at hpx
        subst hpx
        exact p0
      have HPREV := Lib.hid hprev
      clear hprev
      go_upto_region 4 with fail
      go_cut [53] (fun t wx => t = .bool (badQ s x y p k) ∧ Below w.heap.size w wx)
      case first =>
        by_cases hx0 : x < 0
        · refine wp_region_quiet_lit (by kernel_rfl) (by kernel_rfl) ?_
          repeat (any_goals (first | go_big_quiet_step (fail) | quiet_step (fail) | (refine wpQuiet_step (fun K hK => ?_); go_simp; split <;> (refine hK _ ?_; clear hK K))))
          all_goals (refine wpQuiet_nil ?_; intro _ hw'; obtain ⟨nq, hw''⟩ := hw'; subst hw'')
          all_goals (go_wp2_with fail; go_meet; exact ⟨by simp [badQ, hx0], below_drewN (belowA hB _) _⟩)
        · have hx0' : 0 ≤ x := by omega
          by_cases hx1 : x < sn
          · obtain ⟨sb, so, z, rfl, sc0, hz⟩ := (HS.out.keep hB).num (x := x) (by omega) hx1
            have hsbr : sb < wr.heap.size := lt_of_cell sc0
            have hbad : badQ s x y p k = (decide (y < 0) || decide (z ≤ y) || (decide (0 < k) && decide (x ≤ p))) := by
              have := HSN.out
              have e1 : decide (x < 0) = false := by simpa using hx0'
              have e2 : decide ((s.length : Int) ≤ x) = false := by simp; omega
              simp only [badQ, e1, e2, hz, Bool.false_or]
            have HZ := Lib.hid hz
            have HBAD := Lib.hid hbad
            clear hz hbad
            by_cases hk0 : 0 < k
            · have p0 := HPREV.out hk0
              refine wp_region_quiet_lit (by kernel_rfl) (by kernel_rfl) ?_
              repeat (any_goals (first | go_big_quiet_step (fail) | quiet_step (fail) | (refine wpQuiet_step (fun K hK => ?_); go_simp; split <;> (refine hK _ ?_; clear hK K))))
              all_goals (refine wpQuiet_nil ?_; intro _ hw'; obtain ⟨nq, hw''⟩ := hw'; subst hw'')
              all_goals (go_wp2_with fail; go_meet; exact ⟨by rw [HBAD.out, Value.bool.injEq, Bool.eq_iff_iff]; simp; omega, below_drewN (belowA hB _) _⟩)
            · obtain rfl : k = 0 := by omega
              refine wp_region_quiet_lit (by kernel_rfl) (by kernel_rfl) ?_
              repeat (any_goals (first | go_big_quiet_step (fail) | quiet_step (fail) | (refine wpQuiet_step (fun K hK => ?_); go_simp; split <;> (refine hK _ ?_; clear hK K))))
              all_goals (refine wpQuiet_nil ?_; intro _ hw'; obtain ⟨nq, hw''⟩ := hw'; subst hw'')
              all_goals (go_wp2_with fail; go_meet; exact ⟨by rw [HBAD.out, Value.bool.injEq, Bool.eq_iff_iff]; simp; omega, below_drewN (belowA hB _) _⟩)
          · have hx1' : (sn : Int) ≤ x := by omega
            have hbad : badQ s x y p k = true := by
              have := HSN.out
              have e2 : decide ((s.length : Int) ≤ x) = true := by simp; omega
              simp only [badQ, e2, Bool.or_true, Bool.true_or]
            have HBAD := Lib.hid hbad
            clear hbad
            refine wp_region_quiet_lit (by kernel_rfl) (by kernel_rfl) ?_
            repeat (any_goals (first | go_big_quiet_step (fail) | quiet_step (fail) | (refine wpQuiet_step (fun K hK => ?_); go_simp; split <;> (refine hK _ ?_; clear hK K))))
            all_goals (refine wpQuiet_nil ?_; intro _ hw'; obtain ⟨nq, hw''⟩ := hw'; subst hw'')
            all_goals (go_wp2_with fail; go_meet; exact ⟨by rw [HBAD.out], below_drewN (belowA hB _) _⟩)
      case rest =>
        obtain ⟨rfl, hB'⟩ := hcut
        cases hbad : badQ s x y p k
        · go_wp2
          go_roundg (n - (k + 1))
          case measure => have := HG.out; omega
          case rel =>
            refine ⟨k + 1, x, by omega, rfl, by go_num, hB', fun q _ hq => ?_, ?_⟩
            · rw [Nat.add_sub_cancel, HX.out] at hq; injection hq with hq; rw [← hq]
            · rw [HF.out, HD.out, propQ, hbad]; rfl
        · go_wp2
          go_ret
          exact ⟨by rw [HF.out, HD.out, propQ, hbad]; rfl, hB'⟩
    · go_wp2
      go_ret
      exact ⟨by rw [HF.out, List.drop_eq_nil_of_le (by have := HN.out; omega)]; rfl, hB⟩
end Go.Proofs.YticdfbhbbapbdaaDoor
/- certificate.Claims, stratagemref30.Claims; certificate.Proper, stratagemref30.Proper. -/
namespace Go.Proofs.YticdfbhbbapbdaaDoor
open Go.RowKit

def claimsF (b : Int) (l : List Nogood) (s : List Int) (d : Int) : Bool := if checkF b l = 0 then l.any (fun x => decide (x.2 ≤ d) && holdsF x.1 s) else false
def properC (vars : List Int) (b : Int) (l : List Nogood) : Int := if checkF b l = 0 then (if l.all (fun x => propF vars x.1) then 0 else 2) else checkF b l

set_option maxHeartbeats 1000000 in
theorem claims_calls (bd : Int) (v sv : Value) (l : List Nogood) (s : List Int) (d : Int) (w : World) (hv : NogoodsAt w v l) (hs : IntsAt w sv s) :
    Calls Tryd.prog 18 #[.agg #[.int .i64 bd, v], sv, .int .i64 d] w fun e w' => e = .returned (.bool (claimsF bd l s d)) ∧ Below w.heap.size w w' := by
  obtain ⟨A, n, c, rfl, hn, hm⟩ := hv.form
  obtain ⟨sA, sn, sc, rfl, hsn, hsm⟩ := hs.form
  have HV := Lib.hid hv
  have HN := Lib.hid hn
  have HS := Lib.hid hs
  have HSN := Lib.hid hsn
  clear hv hn hs hsn
  by_cases hc : checkF bd l = 0
  · have HE := Lib.hid (show errV (checkF bd l) = .nilIface by rw [hc]; rfl)
    have hfin : claimsF bd l s d = l.any (fun x => decide (x.2 ≤ d) && holdsF x.1 s) := by rw [claimsF, if_pos hc]
    have HC := Lib.hid hc
    have HFIN := Lib.hid hfin
    clear hc hfin
    go_enter Tryd.func18, Tryd.ntmps18
    go_wp2_with (go_at_call 13; refine (check_calls bd _ l _ (HV.out.keep (belowA (Below.refl _ _) _))).mono ?_; rw [HE.out]; rintro e w1 ⟨rfl, hbw1⟩; have q1 : w1.cell? ⟨w.heap.size, 1, none⟩ = some (.slice A n c) := kept hbw1 (by simp [World.cell?_alloc_new]))
    have hB1 : Below w.heap.size w w1 := belowT (belowA (Below.refl _ _) _) hbw1
    clear hbw1 q1
    go_loopg [15] n (fun g i wr => ∃ k : Nat, k ≤ n ∧ g = n - k ∧ i = .int .i64 k ∧ Below w.heap.size w wr ∧ l.any (fun x => decide (x.2 ≤ d) && holdsF x.1 s) = (l.drop k).any (fun x => decide (x.2 ≤ d) && holdsF x.1 s))
    case atStart => exact ⟨0, Nat.zero_le _, by omega, rfl, hB1, rfl⟩
    case round =>
      clear hB1
      obtain ⟨k, hk, hg, rfl, hB, hF⟩ := hrel
      have HG := Lib.hid hg
      have HF := Lib.hid hF
      clear hg hF
      by_cases hlt : k < n
      · obtain ⟨b, off, fA, fn, fc, fs, dd, rfl, c0, hfn, hfm, hfs, c1, hx, hd⟩ := (HV.out.keep hB).at hlt
        have hbr : b < wr.heap.size := lt_of_cell c0
        have hsk := (HS.out.keep hB).keep (belowA (Below.refl _ _) (.cells #[.slice fA fn fc, .int .i64 dd] 45))
        have HX := Lib.hid hx
        have HD := Lib.hid hd
        have HFS := Lib.hid hfs
        have HFN := Lib.hid hfn
        have HSK := Lib.hid hsk
        clear hx hd hfs hfn hsk
        by_cases hle : dd ≤ d
        · cases hh : holdsF fs s
          · have HH := Lib.hid hh
            clear hh
            go_wp2_with (go_at_call 38; refine (holds_calls _ _ fs s _ (HFS.out.keep (belowA (Below.refl _ _) _)) HSK.out).mono ?_; rw [HH.out]; rintro e w2 ⟨rfl, hb2⟩)
            go_roundg (n - (k + 1))
            case measure => have := HG.out; omega
            case rel => exact ⟨k + 1, by omega, rfl, by go_num, belowT (belowA hB _) hb2, by rw [HF.out, HD.out]; simp [HH.out]⟩
          · have HH := Lib.hid hh
            clear hh
            go_wp2_with (go_at_call 38; refine (holds_calls _ _ fs s _ (HFS.out.keep (belowA (Below.refl _ _) _)) HSK.out).mono ?_; rw [HH.out]; rintro e w2 ⟨rfl, hb2⟩)
            go_ret
            exact ⟨by rw [HFIN.out, HF.out, HD.out]; simp [HH.out, hle], belowT (belowA hB _) hb2⟩
        · have hle' : decide (dd ≤ d) = false := by simpa using hle
          go_wp2_with fail
          go_roundg (n - (k + 1))
          case measure => have := HG.out; omega
          case rel => exact ⟨k + 1, by omega, rfl, by go_num, belowA hB _, by rw [HF.out, HD.out]; simp only [List.any_cons, hle', Bool.false_and, Bool.false_or]⟩
      · go_wp2
        go_ret
        exact ⟨by rw [HFIN.out, HF.out, List.drop_eq_nil_of_le (by have := HN.out; omega)]; rfl, hB⟩
  · have HE := Lib.hid (errV_ne hc)
    have hfin : claimsF bd l s d = false := by rw [claimsF, if_neg hc]
    have HC := Lib.hid hc
    have HFIN := Lib.hid hfin
    clear hc hfin
    go_enter Tryd.func18, Tryd.ntmps18
    go_wp2_with (go_at_call 13; refine (check_calls bd _ l _ (HV.out.keep (belowA (Below.refl _ _) _))).mono ?_; rw [HE.out]; rintro e w1 ⟨rfl, hbw1⟩)
    go_ret
    exact ⟨by rw [HFIN.out]; rfl, belowT (belowA (Below.refl _ _) _) hbw1⟩
set_option maxHeartbeats 1000000 in
theorem rclaims_calls (bd : Int) (v sv : Value) (l : List Nogood) (s : List Int) (d : Int) (w : World) (hv : NogoodsAt w v l) (hs : IntsAt w sv s) :
    Calls Tryd.prog 19 #[.agg #[.int .i64 bd, v], sv, .int .i64 d] w fun e w' => e = .returned (.bool (claimsF bd l s d)) ∧ Below w.heap.size w w' := by
  obtain ⟨A, n, c, rfl, hn, hm⟩ := hv.form
  obtain ⟨sA, sn, sc, rfl, hsn, hsm⟩ := hs.form
  have HV := Lib.hid hv
  have HN := Lib.hid hn
  have HS := Lib.hid hs
  have HSN := Lib.hid hsn
  clear hv hn hs hsn
  by_cases hc : checkF bd l = 0
  · have hcz : (checkF bd l != 0) = false := by simpa using hc
    have hfin : claimsF bd l s d = l.any (fun x => decide (x.2 ≤ d) && holdsF x.1 s) := by rw [claimsF, if_pos hc]
    have HC := Lib.hid hc
    have HFIN := Lib.hid hfin
    clear hc hfin
    go_enter Tryd.func19, Tryd.ntmps19
    go_wp2_with (go_at_call 14; refine (rcheck_calls bd _ l _ (HV.out.keep (belowA (Below.refl _ _) _))).mono ?_; skip; rintro e w1 ⟨rfl, hbw1⟩; have q1 : w1.cell? ⟨w.heap.size, 1, none⟩ = some (.slice A n c) := kept hbw1 (by simp [World.cell?_alloc_new]))
    have hB1 : Below w.heap.size w w1 := belowT (belowA (Below.refl _ _) _) hbw1
    clear hbw1 q1
    go_loopg [15] n (fun g i wr => ∃ k : Nat, k ≤ n ∧ g = n - k ∧ i = .int .i64 k ∧ Below w.heap.size w wr ∧ l.any (fun x => decide (x.2 ≤ d) && holdsF x.1 s) = (l.drop k).any (fun x => decide (x.2 ≤ d) && holdsF x.1 s))
    case atStart => exact ⟨0, Nat.zero_le _, by omega, rfl, hB1, rfl⟩
    case round =>
      clear hB1
      obtain ⟨k, hk, hg, rfl, hB, hF⟩ := hrel
      have HG := Lib.hid hg
      have HF := Lib.hid hF
      clear hg hF
      by_cases hlt : k < n
      · obtain ⟨b, off, fA, fn, fc, fs, dd, rfl, c0, hfn, hfm, hfs, c1, hx, hd⟩ := (HV.out.keep hB).at hlt
        have hbr : b < wr.heap.size := lt_of_cell c0
        have hsk := (HS.out.keep hB).keep (belowA (Below.refl _ _) (.cells #[.slice fA fn fc, .int .i64 dd] 45))
        have HX := Lib.hid hx
        have HD := Lib.hid hd
        have HFS := Lib.hid hfs
        have HFN := Lib.hid hfn
        have HSK := Lib.hid hsk
        clear hx hd hfs hfn hsk
        by_cases hle : dd ≤ d
        · cases hh : holdsF fs s
          · have HH := Lib.hid hh
            clear hh
            go_wp2_with (go_at_call 39; refine (bholds_calls _ _ fs s _ (HFS.out.keep (belowA (Below.refl _ _) _)) HSK.out).mono ?_; rw [HH.out]; rintro e w2 ⟨rfl, hb2⟩)
            go_roundg (n - (k + 1))
            case measure => have := HG.out; omega
            case rel => exact ⟨k + 1, by omega, rfl, by go_num, belowT (belowA hB _) hb2, by rw [HF.out, HD.out]; simp [HH.out]⟩
          · have HH := Lib.hid hh
            clear hh
            go_wp2_with (go_at_call 39; refine (bholds_calls _ _ fs s _ (HFS.out.keep (belowA (Below.refl _ _) _)) HSK.out).mono ?_; rw [HH.out]; rintro e w2 ⟨rfl, hb2⟩)
            go_ret
            exact ⟨by rw [HFIN.out, HF.out, HD.out]; simp [HH.out, hle], belowT (belowA hB _) hb2⟩
        · have hle' : decide (dd ≤ d) = false := by simpa using hle
          go_wp2_with fail
          go_roundg (n - (k + 1))
          case measure => have := HG.out; omega
          case rel => exact ⟨k + 1, by omega, rfl, by go_num, belowA hB _, by rw [HF.out, HD.out]; simp only [List.any_cons, hle', Bool.false_and, Bool.false_or]⟩
      · go_wp2
        go_ret
        exact ⟨by rw [HFIN.out, HF.out, List.drop_eq_nil_of_le (by have := HN.out; omega)]; rfl, hB⟩
  · have hcz : (checkF bd l != 0) = true := by simpa using hc
    have hfin : claimsF bd l s d = false := by rw [claimsF, if_neg hc]
    have HC := Lib.hid hc
    have HFIN := Lib.hid hfin
    clear hc hfin
    go_enter Tryd.func19, Tryd.ntmps19
    go_wp2_with (go_at_call 14; refine (rcheck_calls bd _ l _ (HV.out.keep (belowA (Below.refl _ _) _))).mono ?_; skip; rintro e w1 ⟨rfl, hbw1⟩)
    go_ret
    exact ⟨by rw [HFIN.out]; rfl, belowT (belowA (Below.refl _ _) _) hbw1⟩

set_option maxHeartbeats 1000000 in
theorem proper_calls (bd : Int) (v sv : Value) (l : List Nogood) (s : List Int) (w : World) (hv : NogoodsAt w v l) (hs : IntsAt w sv s) :
    Calls Tryd.prog 20 #[sv, .agg #[.int .i64 bd, v]] w fun e w' => e = .returned (errV (properC s bd l)) ∧ Below w.heap.size w w' := by
  obtain ⟨A, n, c, rfl, hn, hm⟩ := hv.form
  obtain ⟨sA, sn, sc, rfl, hsn, hsm⟩ := hs.form
  have HV := Lib.hid hv
  have HN := Lib.hid hn
  have HS := Lib.hid hs
  have HSN := Lib.hid hsn
  clear hv hn hs hsn
  by_cases hc : checkF bd l = 0
  · have HE := Lib.hid (show errV (checkF bd l) = .nilIface by rw [hc]; rfl)
    have hfin : properC s bd l = if l.all (fun x => propF s x.1) then 0 else 2 := by rw [properC, if_pos hc]
    have HC := Lib.hid hc
    have HFIN := Lib.hid hfin
    clear hc hfin
    go_enter Tryd.func20, Tryd.ntmps20
    go_wp2_with (go_at_call 13; refine (check_calls bd _ l _ (HV.out.keep (belowA (Below.refl _ _) _))).mono ?_; rw [HE.out]; rintro e w1 ⟨rfl, hbw1⟩; have q1 : w1.cell? ⟨w.heap.size, 1, none⟩ = some (.slice A n c) := kept hbw1 (by simp [World.cell?_alloc_new]))
    have hB1 : Below w.heap.size w w1 := belowT (belowA (Below.refl _ _) _) hbw1
    clear hbw1 q1
    go_loopg [16] n (fun g i wr => ∃ k : Nat, k ≤ n ∧ g = n - k ∧ i = .int .i64 k ∧ Below w.heap.size w wr ∧ l.all (fun x => propF s x.1) = (l.drop k).all (fun x => propF s x.1))
    case atStart => exact ⟨0, Nat.zero_le _, by omega, rfl, hB1, rfl⟩
    case round =>
      clear hB1
      obtain ⟨k, hk, hg, rfl, hB, hF⟩ := hrel
      have HG := Lib.hid hg
      have HF := Lib.hid hF
      clear hg hF
      by_cases hlt : k < n
      · obtain ⟨b, off, fA, fn, fc, fs, dd, rfl, c0, hfn, hfm, hfs, c1, hx, hd⟩ := (HV.out.keep hB).at hlt
        have hbr : b < wr.heap.size := lt_of_cell c0
        have hsk := (HS.out.keep hB).keep (belowA (Below.refl _ _) (.cells #[.slice fA fn fc, .int .i64 dd] 45))
        have HX := Lib.hid hx
        have HD := Lib.hid hd
        have HFS := Lib.hid hfs
        have HFN := Lib.hid hfn
        have HSK := Lib.hid hsk
        clear hx hd hfs hfn hsk
        cases hh : propF s fs
        · have HH := Lib.hid hh
          clear hh
          go_wp2_with (go_at_call 40; refine (facts_calls _ _ s fs _ HSK.out (HFS.out.keep (belowA (Below.refl _ _) _))).mono ?_; rw [HH.out]; rintro e w2 ⟨rfl, hb2⟩)
          go_ret
          exact ⟨by rw [HFIN.out, HF.out, HD.out]; simp [HH.out] <;> rfl, belowT (belowA hB _) hb2⟩
        · have HH := Lib.hid hh
          clear hh
          go_wp2_with (go_at_call 40; refine (facts_calls _ _ s fs _ HSK.out (HFS.out.keep (belowA (Below.refl _ _) _))).mono ?_; rw [HH.out]; rintro e w2 ⟨rfl, hb2⟩)
          go_roundg (n - (k + 1))
          case measure => have := HG.out; omega
          case rel => exact ⟨k + 1, by omega, rfl, by go_num, belowT (belowA hB _) hb2, by rw [HF.out, HD.out]; simp [HH.out]⟩
      · go_wp2
        go_ret
        exact ⟨by rw [HFIN.out, HF.out, List.drop_eq_nil_of_le (by have := HN.out; omega)]; rfl, hB⟩
  · have HE := Lib.hid (errV_ne hc)
    have hfin : properC s bd l = checkF bd l := by rw [properC, if_neg hc]
    have HC := Lib.hid hc
    have HFIN := Lib.hid hfin
    clear hc hfin
    go_enter Tryd.func20, Tryd.ntmps20
    go_wp2_with (go_at_call 13; refine (check_calls bd _ l _ (HV.out.keep (belowA (Below.refl _ _) _))).mono ?_; rw [HE.out]; rintro e w1 ⟨rfl, hbw1⟩)
    go_ret
    exact ⟨by rw [HFIN.out] <;> (try rw [HE.out]) <;> rfl, belowT (belowA (Below.refl _ _) _) hbw1⟩
set_option maxHeartbeats 1000000 in
theorem rproper_calls (bd : Int) (v sv : Value) (l : List Nogood) (s : List Int) (w : World) (hv : NogoodsAt w v l) (hs : IntsAt w sv s) :
    Calls Tryd.prog 21 #[sv, .agg #[.int .i64 bd, v]] w fun e w' => e = .returned (.int .i64 (properC s bd l)) ∧ Below w.heap.size w w' := by
  obtain ⟨A, n, c, rfl, hn, hm⟩ := hv.form
  obtain ⟨sA, sn, sc, rfl, hsn, hsm⟩ := hs.form
  have HV := Lib.hid hv
  have HN := Lib.hid hn
  have HS := Lib.hid hs
  have HSN := Lib.hid hsn
  clear hv hn hs hsn
  by_cases hc : checkF bd l = 0
  · have hcz : (checkF bd l != 0) = false := by simpa using hc
    have hfin : properC s bd l = if l.all (fun x => propF s x.1) then 0 else 2 := by rw [properC, if_pos hc]
    have HC := Lib.hid hc
    have HFIN := Lib.hid hfin
    clear hc hfin
    go_enter Tryd.func21, Tryd.ntmps21
    go_wp2_with (go_at_call 14; refine (rcheck_calls bd _ l _ (HV.out.keep (belowA (Below.refl _ _) _))).mono ?_; skip; rintro e w1 ⟨rfl, hbw1⟩; have q1 : w1.cell? ⟨w.heap.size, 1, none⟩ = some (.slice A n c) := kept hbw1 (by simp [World.cell?_alloc_new]))
    have hB1 : Below w.heap.size w w1 := belowT (belowA (Below.refl _ _) _) hbw1
    clear hbw1 q1
    go_loopg [16] n (fun g i wr => ∃ k : Nat, k ≤ n ∧ g = n - k ∧ i = .int .i64 k ∧ Below w.heap.size w wr ∧ l.all (fun x => propF s x.1) = (l.drop k).all (fun x => propF s x.1))
    case atStart => exact ⟨0, Nat.zero_le _, by omega, rfl, hB1, rfl⟩
    case round =>
      clear hB1
      obtain ⟨k, hk, hg, rfl, hB, hF⟩ := hrel
      have HG := Lib.hid hg
      have HF := Lib.hid hF
      clear hg hF
      by_cases hlt : k < n
      · obtain ⟨b, off, fA, fn, fc, fs, dd, rfl, c0, hfn, hfm, hfs, c1, hx, hd⟩ := (HV.out.keep hB).at hlt
        have hbr : b < wr.heap.size := lt_of_cell c0
        have hsk := (HS.out.keep hB).keep (belowA (Below.refl _ _) (.cells #[.slice fA fn fc, .int .i64 dd] 45))
        have HX := Lib.hid hx
        have HD := Lib.hid hd
        have HFS := Lib.hid hfs
        have HFN := Lib.hid hfn
        have HSK := Lib.hid hsk
        clear hx hd hfs hfn hsk
        cases hh : propF s fs
        · have HH := Lib.hid hh
          clear hh
          go_wp2_with (go_at_call 41; refine (bproper_calls _ _ s fs _ HSK.out (HFS.out.keep (belowA (Below.refl _ _) _))).mono ?_; rw [HH.out]; rintro e w2 ⟨rfl, hb2⟩)
          go_ret
          exact ⟨by rw [HFIN.out, HF.out, HD.out]; simp [HH.out] <;> rfl, belowT (belowA hB _) hb2⟩
        · have HH := Lib.hid hh
          clear hh
          go_wp2_with (go_at_call 41; refine (bproper_calls _ _ s fs _ HSK.out (HFS.out.keep (belowA (Below.refl _ _) _))).mono ?_; rw [HH.out]; rintro e w2 ⟨rfl, hb2⟩)
          go_roundg (n - (k + 1))
          case measure => have := HG.out; omega
          case rel => exact ⟨k + 1, by omega, rfl, by go_num, belowT (belowA hB _) hb2, by rw [HF.out, HD.out]; simp [HH.out]⟩
      · go_wp2
        go_ret
        exact ⟨by rw [HFIN.out, HF.out, List.drop_eq_nil_of_le (by have := HN.out; omega)]; rfl, hB⟩
  · have hcz : (checkF bd l != 0) = true := by simpa using hc
    have hfin : properC s bd l = checkF bd l := by rw [properC, if_neg hc]
    have HC := Lib.hid hc
    have HFIN := Lib.hid hfin
    clear hc hfin
    go_enter Tryd.func21, Tryd.ntmps21
    go_wp2_with (go_at_call 14; refine (rcheck_calls bd _ l _ (HV.out.keep (belowA (Below.refl _ _) _))).mono ?_; skip; rintro e w1 ⟨rfl, hbw1⟩)
    go_ret
    exact ⟨by rw [HFIN.out] <;> (try rw [HE.out]) <;> rfl, belowT (belowA (Below.refl _ _) _) hbw1⟩
end Go.Proofs.YticdfbhbbapbdaaDoor
/- Plain facts on certificates: what a check that passes gives; the text of a certificate. -/
namespace Go.Proofs.YticdfbhbbapbdaaDoor

theorem formedL_facts (l : List Fact) : ∀ (k : Nat) (p : Int), formedL k p l = true → ∀ x ∈ l, 0 ≤ x.1 ∧ x.1 < 64 ∧ 0 ≤ x.2 ∧ x.2 < 64 := by
  induction l with
  | nil => intro k p _ x hx; cases hx
  | cons y r ih =>
    obtain ⟨a, c⟩ := y
    intro k p h x hx
    rw [formedL] at h
    cases hb : badB a c p k
    · rw [hb] at h
      cases List.mem_cons.1 hx with
      | inl e => subst e; simp [badB] at hb; simp; omega
      | inr e => exact ih _ _ h x e
    · rw [hb] at h; cases h
theorem formedL_len (l : List Fact) : ∀ (k : Nat) (p : Int), 0 < k → 0 ≤ p → formedL k p l = true → (l.length : Int) + p ≤ 63 ∨ l = [] := by
  induction l with
  | nil => intro k p _ _ _; exact .inr rfl
  | cons y r ih =>
    obtain ⟨a, c⟩ := y
    intro k p hk hp h
    rw [formedL] at h
    cases hb : badB a c p k
    · rw [hb] at h
      simp [badB] at hb
      rcases ih (k + 1) a (by omega) (by omega) h with h1 | h1
      · left; simp; omega
      · left; subst h1; simp; omega
    · rw [hb] at h; cases h
theorem formedF_len {l : List Fact} (h : formedF l = true) : l.length ≤ 64 := by
  cases l with
  | nil => simp
  | cons y r =>
    obtain ⟨a, c⟩ := y
    rw [formedF, formedL] at h
    cases hb : badB a c 0 0
    · rw [hb] at h
      simp [badB] at hb
      rcases formedL_len r 1 a (by omega) (by omega) h with h1 | h1
      · simp; omega
      · subst h1; simp
    · rw [hb] at h; cases h
theorem formedF_facts {l : List Fact} (h : formedF l = true) : ∀ x ∈ l, 0 ≤ x.1 ∧ x.1 < 64 ∧ 0 ≤ x.2 ∧ x.2 < 64 := formedL_facts l 0 0 h

theorem checkF_zero {b : Int} {l : List Nogood} (h : checkF b l = 0) : -1 ≤ b ∧ b ≤ 1099511627776 ∧ l.length ≤ 4096 ∧ (∀ x ∈ l, formedF x.1 = true) ∧ ∀ x ∈ l, badDist b x.2 = false := by
  unfold checkF at h
  by_cases h1 : b < -1 ∨ 1099511627776 < b
  · rw [if_pos h1] at h; omega
  · rw [if_neg h1] at h
    by_cases h2 : 4096 < l.length
    · rw [if_pos h2] at h; omega
    · rw [if_neg h2] at h
      by_cases h3 : l.all (fun x => formedF x.1) = false
      · rw [if_pos h3] at h; omega
      · rw [if_neg h3] at h
        by_cases h4 : l.any (fun x => badDist b x.2) = true
        · rw [if_pos h4] at h; omega
        · refine ⟨by omega, by omega, by omega, ?_, ?_⟩
          · simpa using h3
          · simpa using h4
theorem badDist_range {b d : Int} (hb : -1 ≤ b) (h2 : b ≤ 1099511627776) (h : badDist b d = false) : 0 ≤ d ∧ d < 1099511627776 := by
  simp [badDist] at h; omega
theorem badDist_neg {b d : Int} (hb : b = -1) (h : badDist b d = false) : d = 0 := by
  simp [badDist] at h; omega

def lineB (d : Int) : List UInt8 := [110, 111, 103, 111, 111, 100, 32] ++ Lib.itoa d ++ [58]
def factB (x : Fact) : List UInt8 := [32] ++ Lib.itoa x.1 ++ [61] ++ Lib.itoa x.2
def headB (b : Int) : List UInt8 := if b < 0 then [117, 110, 115, 111, 108, 118, 97, 98, 108, 101, 10] else [108, 111, 119, 101, 114, 32] ++ Lib.itoa b ++ [10]
def nogoodB (x : Nogood) : List UInt8 := lineB x.2 ++ x.1.flatMap factB ++ [10]
def formatL : List UInt8 → List Nogood → Option (List UInt8)
  | acc, [] => some acc
  | acc, x :: r => if 65536 < (acc ++ nogoodB x).length then none else formatL (acc ++ nogoodB x) r
/-- the text, or nothing and the error's number -/
def formatF (b : Int) (l : List Nogood) : List UInt8 × Int :=
  if checkF b l ≠ 0 then ([], checkF b l) else match formatL (headB b) l with
    | some t => (t, 0)
    | none => ([], 5)

theorem lineB_len (d : Int) (h0 : 0 ≤ d) (h1 : d < 1099511627776) : (lineB d).length ≤ 29 := by
  have := Lib.itoa_length_le d (by omega) (by omega)
  simp [lineB]; omega
theorem factB_len (x : Fact) (h : 0 ≤ x.1 ∧ x.1 < 64 ∧ 0 ≤ x.2 ∧ x.2 < 64) : (factB x).length ≤ 44 := by
  have h1 := Lib.itoa_length_le x.1 (by omega) (by omega)
  have h2 := Lib.itoa_length_le x.2 (by omega) (by omega)
  simp [factB]; omega
theorem headB_len (b : Int) (h1 : b ≤ 1099511627776) : (headB b).length ≤ 29 := by
  unfold headB
  split
  · simp
  · have := Lib.itoa_length_le b (by omega) (by omega)
    simp; omega
end Go.Proofs.YticdfbhbbapbdaaDoor
/- strings.Builder: copyCheck and WriteString (turned from the shelf's proofs to this program's numbers), with the frame by types: whatever block is neither a builder's nor bytes stays. -/
namespace Go.Proofs.YticdfbhbbapbdaaDoor
open Go.RowKit

/-- blocks whose elements' types are not listed stay as they are -/
def KeepT (ts : List TypeId) (w w' : World) : Prop := w.heap.size ≤ w'.heap.size ∧ ∀ (i : Nat) (cs : Array Value) (t : TypeId) (fz : Nat × Nat), w.heap[i]? = some (Obj.cells cs t fz) → t ∉ ts → w'.heap[i]? = some (Obj.cells cs t fz)
theorem KeepT.refl (ts : List TypeId) (w : World) : KeepT ts w w := ⟨Nat.le_refl _, fun _ _ _ _ h _ => h⟩
theorem KeepT.trans {ts : List TypeId} {a b c : World} (h : KeepT ts a b) (k : KeepT ts b c) : KeepT ts a c := ⟨Nat.le_trans h.1 k.1, fun i cs t fz hi ht => k.2 i cs t fz (h.2 i cs t fz hi ht) ht⟩
theorem KeepT.of_below {ts : List TypeId} {w w' : World} (h : Below w.heap.size w w') : KeepT ts w w' := ⟨h.size, fun i cs t fz hi _ => by
  have hlt : i < w.heap.size := by
    rcases Nat.lt_or_ge i w.heap.size with hlt | hge
    · exact hlt
    · rw [Array.getElem?_eq_none hge] at hi; cases hi
  rw [h.block i hlt]; exact hi⟩
theorem KeepT.set_ {ts : List TypeId} {w : World} {p : Addr} {u : Value} {cs : Array Value} {t : TypeId} {fz : Nat × Nat} (hb : w.heap[p.block]? = some (.cells cs t fz)) (ht : t ∈ ts) : KeepT ts w (w.setCell p u) :=
  ⟨by simp [World.setCell], fun i cs' t' fz' hi ht' => by
    rw [Below.heap_setCell w p u i ?_]
    · exact hi
    · rintro rfl
      rw [hb] at hi
      injection hi with hi
      injection hi with _ h2 _
      exact ht' (h2 ▸ ht)⟩
theorem KeepT.grown {ts : List TypeId} {w w' : World} {base : Nat} {e : TypeId} {size n : Nat} {v : Value} {xs : List Value} (hg : w.grownBy w' v.ownBlock) (hown : w.ownsRow base e size v n xs) (ht : e ∈ ts) : KeepT ts w w' :=
  ⟨hg.size, fun i cs t fz hi hnt => by
    have hlt : i < w.heap.size := by
      rcases Nat.lt_or_ge i w.heap.size with hlt | hge
      · exact hlt
      · rw [Array.getElem?_eq_none hge] at hi; cases hi
    rw [hg.block i hlt ?_]
    · exact hi
    · intro hi'
      rcases hown.2 with ⟨rfl, _⟩ | ⟨g, cap, cur, rfl, _, hh, _⟩
      · simp [Value.ownBlock] at hi'
      · have : i = g := by simpa [Value.ownBlock] using hi'
        subst this
        rw [hh] at hi
        injection hi with hi
        injection hi with _ h2 _
        exact hnt (h2 ▸ ht)⟩
theorem KeepT.cell {ts : List TypeId} {w w' : World} (h : KeepT ts w w') {g : Nat} {cs : Array Value} {t : TypeId} {fz : Nat × Nat} (hb : w.heap[g]? = some (.cells cs t fz)) (ht : t ∉ ts) (i : Nat) : w'.cell? ⟨g, i, none⟩ = cs[i]? := by
  simp [World.cell?, h.2 _ _ _ _ hb ht]

theorem sizeBuilder : (Tryd.prog.info? 61).map (·.size) = some 2 := by kernel_rfl
theorem liesBuilder : liesAt Tryd.prog Tryd.prog.depth 61 (2 / Tryd.prog.cellsOf 61) 0 61 1 = true := by kernel_rfl
theorem infoByte : (Tryd.prog.info? 5).map (fun i => (i.zero, i.size, i.bytes)) = some (some (.int .u8 0), 1, 1) := by kernel_rfl

set_option maxHeartbeats 1000000 in
set_option maxRecDepth 100000 in
theorem copyCheck_used (b : Nat) (w : World) (h0 : w.cell? ⟨b, 0, none⟩ = some (.pointer (some ⟨b, 0, none⟩))) :
    Calls Tryd.prog 59 #[.pointer (some ⟨b, 0, none⟩)] w fun e w' => e = .returned (.tuple #[]) ∧ w' = w := by
  obtain ⟨j, hj, _⟩ := Option.map_eq_some_iff.1 sizeBuilder
  go_enter Tryd.func59, Tryd.ntmps59
  go_wp2
  rw [Lib.run_neq_ptr_same w _ Tryd.underlying58 hj]
  go_wp2
  go_end0
  exact ⟨rfl, rfl⟩

set_option maxHeartbeats 1000000 in
set_option maxRecDepth 100000 in
theorem copyCheck_fresh (b : Nat) (w : World) (h0 : w.cell? ⟨b, 0, none⟩ = some (.pointer none)) (hsh : w.shape? b = some (61, 2)) (hfz : w.frozen? ⟨b, 0, none⟩ = false) :
    Calls Tryd.prog 59 #[.pointer (some ⟨b, 0, none⟩)] w fun e w' => e = .returned (.tuple #[]) ∧ w' = w.setCell ⟨b, 0, none⟩ (.pointer (some ⟨b, 0, none⟩)) := by
  obtain ⟨j, hj, hjs⟩ := Option.map_eq_some_iff.1 sizeBuilder
  go_enter Tryd.func59, Tryd.ntmps59
  go_wp2
  rw [Lib.run_to_unsafe w ⟨b, 0, none⟩ Tryd.underlying58 Tryd.underlying96 hj (by rw [hjs]; decide) hsh (Nat.zero_lt_succ 1)]
  simp only [Result.andThen]
  rw [Oper.upon_value]
  go_wp2
  rw [run_callFunc_extern Tryd.func73 (by kernel_rfl) (by kernel_rfl) (by kernel_rfl) (e := Extern.AbiNoEscape.same) (by kernel_rfl)]
  rw [Lib.run_noEscape]
  simp only [Result.andThen]
  rw [Oper.upon_value]
  go_wp2
  rw [Lib.run_from_unsafe w ⟨b, 0, none⟩ Tryd.underlying96 Tryd.underlying58 hj hsh liesBuilder]
  simp only [Result.andThen]
  rw [Oper.upon_value]
  go_wp2
  go_end0
  exact ⟨rfl, rfl⟩

abbrev Bld (B b : Nat) (bs : List Value) (w : World) : Prop := Lib.IsBuilder 61 5 B b bs w

theorem own_keep {w w' : World} {base : Nat} {e : TypeId} {size n : Nat} {v : Value} {xs : List Value} (h : w.ownsRow base e size v n xs) (hb : Below w.heap.size w w') : w'.ownsRow base e size v n xs :=
  h.kept (row := none) ⟨hb.os, hb.tape, hb.output, hb.size, fun i hi _ => hb.block i hi⟩ (by cases v.ownBlock <;> simp)
theorem bldAt_keep {w w' : World} {T e : TypeId} {B b : Nat} {p : Value} {bs : List Value} (h : Lib.BuilderAt T e B b p bs w) (hb : Below w.heap.size w w') : Lib.BuilderAt T e B b p bs w' := by
  have hlt := h.lt
  obtain ⟨hB, v, hbk, hown, hne⟩ := h
  exact ⟨hB, v, by rw [hb.block b hlt]; exact hbk, own_keep hown hb, hne⟩
theorem bld_keep {w w' : World} {B b : Nat} {bs : List Value} (h : Bld B b bs w) (hb : Below w.heap.size w w') : Bld B b bs w' := by
  rcases h with h | h
  · exact .inl (bldAt_keep h hb)
  · exact .inr (bldAt_keep h hb)
theorem bld_lt {w : World} {B b : Nat} {bs : List Value} (h : Bld B b bs w) : b < w.heap.size := by
  rcases h with h | h
  · exact h.lt
  · exact h.lt

theorem copyCheck_calls (B b : Nat) (bs : List Value) (w : World) (h : Bld B b bs w) :
    Calls Tryd.prog 59 #[.pointer (some ⟨b, 0, none⟩)] w fun e w' => e = .returned (.tuple #[]) ∧ (Lib.BuilderAt 61 5 B b (.pointer (some ⟨b, 0, none⟩)) bs w' ∧ Below B w w' ∧ KeepT [61, 5] w w') := by
  rcases h with h | h
  · refine (copyCheck_fresh b w h.cell0 h.shape h.frozen0).mono ?_
    rintro e w' ⟨rfl, rfl⟩
    obtain ⟨hB, v, hb, _⟩ := id h
    exact ⟨rfl, h.used _, (Below.refl B w).setCell (p := ⟨b, 0, none⟩) h.1 _, KeepT.set_ (p := ⟨b, 0, none⟩) hb (by simp)⟩
  · refine (copyCheck_used b w h.cell0).mono ?_
    rintro e w' ⟨rfl, rfl⟩
    exact ⟨rfl, h, Below.refl B _, KeepT.refl _ _⟩

set_option maxHeartbeats 1000000 in
set_option maxRecDepth 100000 in
theorem writeString_calls (B b : Nat) (bs : List Value) (s : ByteArray) (w : World) (h : Bld B b bs w) (hlen : bs.length + s.size ≤ 140737488355328) (hBw : B ≤ w.heap.size) :
    Calls Tryd.prog 32 #[.pointer (some ⟨b, 0, none⟩), .string s] w fun e w' => e = .returned (.tuple #[.int .i64 s.size, .nilIface]) ∧ (Bld B b (bs ++ Lib.strCells s) w' ∧ Below B w w' ∧ KeepT [61, 5] w w') := by
  obtain ⟨i0, hi, hz0, hz1, hz2⟩ := info_parts infoByte
  go_enter Tryd.func32, Tryd.ntmps32
  go_wp2_with (go_at_call 59; refine (copyCheck_calls B b bs _ h).mono ?_)
  rintro e w1 ⟨rfl, h1, hb1, hk1⟩
  obtain ⟨hB, v, hbk, hown, hne⟩ := h1
  have c0 : w1.cell? ⟨b, 0, none⟩ = some (.pointer (some ⟨b, 0, none⟩)) := by rw [Lib.cell_of_heap hbk]; rfl
  have c1 : w1.cell? ⟨b, 1, none⟩ = some v := by rw [Lib.cell_of_heap hbk]; rfl
  go_wp2_with (at_builtin; refine Lib.wpList_append_own_string _ rfl _ _ 59 9 rfl B 5 i0 Tryd.underlying59 Tryd.underlying9 hi hz0 hz1 hz2 _ _ _ rfl hown s rfl ?c3 ?c4 ?c5 ?_)
  case c3 => unfold maxLen; omega
  case c4 => omega
  case c5 => have := hb1.size; omega
  intro v' w2 hown' hgrow _
  have hlt : b < w1.heap.size := by
    rcases Nat.lt_or_ge b w1.heap.size with h' | h'
    · exact h'
    · simp [Array.getElem?_eq_none h'] at hbk
  have hb2 : w2.heap[b]? = some (.cells #[.pointer (some ⟨b, 0, none⟩), v] 61 (0, 0)) := by
    rw [hgrow.block b hlt (fun e => hne e.symm)]
    exact hbk
  have d0 : w2.cell? ⟨b, 0, none⟩ = some (.pointer (some ⟨b, 0, none⟩)) := by rw [Lib.cell_of_heap hb2]; rfl
  have d1 : w2.cell? ⟨b, 1, none⟩ = some v := by rw [Lib.cell_of_heap hb2]; rfl
  have f1 : w2.frozen? ⟨b, 1, none⟩ = false := Lib.frozen_of_heap hb2 1
  have hk2 : KeepT [61, 5] w w2 := hk1.trans (KeepT.grown hgrow hown (by simp))
  have HK := Lib.hid hk2
  clear hk2 hk1
  obtain ⟨ao, n', cap, rfl⟩ : ∃ ao n' cap, v' = .slice ao n' cap := by
    rcases hown'.2 with ⟨hv, _⟩ | ⟨g, cap, cur, hv, _⟩
    · exact ⟨_, _, _, hv⟩
    · exact ⟨_, _, _, hv⟩
  go_wp2
  go_ret2
  refine ⟨rfl, ?_, ?_, ?_⟩
  · exact .inr (Lib.BuilderAt.put (T := 61) (e := 5) hB hb2 (bs' := bs ++ Lib.strCells s) (by simpa [Lib.strCells_length] using hown') (by decide))
  · exact (hb1.grown hgrow (by have := hb1.size; omega) (fun k hk => (hown.lt k hk).1)).setCell (p := ⟨b, 1, none⟩) hB _
  · exact HK.out.trans (KeepT.set_ (p := ⟨b, 1, none⟩) hb2 (by simp))
end Go.Proofs.YticdfbhbbapbdaaDoor
/- certificate.Format: the text of a certificate. -/
namespace Go.Proofs.YticdfbhbbapbdaaDoor
open Go.RowKit

abbrev TabOk (w : World) : Prop := Lib.TabIs Tryd.prog w "internal/strconv.uint64pow10" .u64 Lib.pow10Tab
theorem gPow : Tryd.prog.globalNamed "internal/strconv.uint64pow10" = some 0 := by kernel_rfl
theorem TabOk.keep {w w' : World} (h : TabOk w) (hb : Below w.heap.size w w') : TabOk w' := Joins.tab_stays gPow h hb (Nat.le_refl _)

theorem itoa_calls (n : Int) (w : World) (h0 : -9223372036854775808 ≤ n) (h1 : n ≤ 9223372036854775807) (htab : TabOk w) :
    Calls Tryd.prog 33 #[.int .i64 n] w fun e w' => e = .returned (.string ⟨(Lib.itoa n).toArray⟩) ∧ Below w.heap.size w w' := by
  refine (Tryd.strconv_Itoa n h0 h1 w htab).mono ?_
  rintro e w' ⟨rfl, k, os, rfl⟩
  exact ⟨rfl, Lib.below_grow _ _ (Nat.le_refl _) _ _⟩

theorem byteCells_append (a b : List UInt8) : Lib.byteCells (a ++ b) = Lib.byteCells a ++ Lib.byteCells b := by simp [Lib.byteCells]
theorem strCells_list (a : List UInt8) : Lib.strCells ⟨a.toArray⟩ = Lib.byteCells a := by simp [Lib.strCells, Lib.byteCells]
/-- WriteString, in lists of bytes -/
theorem writeB (B b : Nat) (acc : List UInt8) (s : ByteArray) (t : List UInt8) (w : World) (hs : s.data.toList = t) (h : Bld B b (Lib.byteCells acc) w) (hlen : acc.length + t.length ≤ 140737488355328) (hBw : B ≤ w.heap.size) :
    Calls Tryd.prog 32 #[.pointer (some ⟨b, 0, none⟩), .string s] w fun e w' => e = .returned (.tuple #[.int .i64 s.size, .nilIface]) ∧ (Bld B b (Lib.byteCells (acc ++ t)) w' ∧ Below B w w' ∧ KeepT [61, 5] w w') := by
  subst hs
  have h9 : s.size = s.data.toList.length := by show s.data.size = _; rw [Array.length_toList]
  refine (writeString_calls B b (Lib.byteCells acc) s w h (by rw [Lib.byteCells_length]; omega) hBw).mono ?_
  rintro e w' ⟨rfl, h1, h2, h3⟩
  refine ⟨rfl, ?_, h2, h3⟩
  rw [byteCells_append]
  exact h1

set_option maxHeartbeats 1000000 in
theorem format_err (bd : Int) (v : Value) (l : List Nogood) (w : World) (hv : NogoodsAt w v l) (hc : checkF bd l ≠ 0) :
    Calls Tryd.prog 16 #[.agg #[.int .i64 bd, v]] w fun e w' => e = .returned (.tuple #[.string ⟨#[]⟩, errV (checkF bd l)]) ∧ Below w.heap.size w w' := by
  obtain ⟨A, n, c, rfl, hn, hm⟩ := hv.form
  have he := errV_ne hc
  have HV := Lib.hid hv
  have HN := Lib.hid hn
  have HC := Lib.hid hc
  have HE := Lib.hid he
  clear hv hn hc he
  go_enter Tryd.func16, Tryd.ntmps16
  go_wp2_with (go_at_call 13; refine (check_calls bd _ l _ (HV.out.keep (belowA (Below.refl _ _) _))).mono ?_; rw [HE.out]; rintro e w' ⟨rfl, hb'⟩)
  go_ret2
  exact ⟨by rw [HE.out]; rfl, belowT (belowA (Below.refl _ _) _) hb'⟩

set_option maxHeartbeats 1000000 in
set_option maxRecDepth 100000 in
theorem format_ok (bd : Int) (v : Value) (l : List Nogood) (w : World) (hv : NogoodsAt w v l) (hc : checkF bd l = 0) (htab : TabOk w) :
    Calls Tryd.prog 16 #[.agg #[.int .i64 bd, v]] w fun e w' => e = .returned (.tuple #[.string ⟨(formatF bd l).1.toArray⟩, errV (formatF bd l).2]) ∧ Below w.heap.size w w' := by
  obtain ⟨A, n, c, rfl, hn, hm⟩ := hv.form
  have he : errV (checkF bd l) = .nilIface := by rw [hc]; rfl
  obtain ⟨hb1, hb2, hn4, hform, hdist⟩ := checkF_zero hc
  have HV := Lib.hid hv
  have HN := Lib.hid hn
  have HC := Lib.hid hc
  have HE := Lib.hid he
  have HFORM := Lib.hid hform
  have HDIST := Lib.hid hdist
  have HTAB := Lib.hid htab
  have HN4 := Lib.hid hn4
  clear hv hn hc he hform hdist htab hn4
  go_enter Tryd.func16, Tryd.ntmps16
  go_upto_if 17 with (go_at_call 13; refine (check_calls bd _ l _ (HV.out.keep (belowA (Below.refl _ _) _))).mono ?_; rw [HE.out]; rintro e w1 ⟨rfl, hbw1⟩; have q0 : w1.cell? ⟨w.heap.size, 0, none⟩ = some (.int .i64 bd) := kept hbw1 (by simp [World.cell?_alloc_new]); have q1 : w1.cell? ⟨w.heap.size, 1, none⟩ = some (.slice A n c) := kept hbw1 (by simp [World.cell?_alloc_new]); have hsz : w.heap.size < w1.heap.size := lt_of_cell q0)
  have hBw1 : Below w.heap.size w w1 := belowT (belowA (Below.refl _ _) _) hbw1
  have hbld : Bld w1.heap.size w1.heap.size (Lib.byteCells []) (w1.alloc (.cells #[.pointer none, .slice none 0 0] 61)) := .inl ⟨Nat.le_refl _, .slice none 0 0, by exact heap_alloc_new _ _, ⟨by simp [Lib.byteCells], .inl ⟨rfl, rfl⟩⟩, by simp [Value.ownBlock]⟩
  have HBLD := Lib.hid hbld
  clear hbld
  clear hbw1
  go_cut [] (fun wx => Bld w1.heap.size w1.heap.size (Lib.byteCells (headB bd)) wx ∧ Below w1.heap.size w1 wx)
  case first =>
    by_cases hneg : bd < 0
    · have hh : headB bd = [117, 110, 115, 111, 108, 118, 97, 98, 108, 101, 10] := by rw [headB, if_pos hneg]
      have HH := Lib.hid hh
      clear hh
      go_wp2_with (go_at_call 32; refine (writeB _ _ _ _ [117, 110, 115, 111, 108, 118, 97, 98, 108, 101, 10] _ rfl HBLD.out (by simp) (by simp)).mono ?_; rintro e w2 ⟨rfl, hb2, hbe2, hk2⟩)
      go_meet
      exact ⟨by rw [HH.out]; exact hb2, (belowA (Below.refl _ _) _).trans hbe2⟩
    · have hh : headB bd = [108, 111, 119, 101, 114, 32] ++ Lib.itoa bd ++ [10] := by rw [headB, if_neg hneg]
      have hil := Lib.itoa_length_le bd (by omega) (by omega)
      have ht1 := HTAB.out.keep hBw1
      have HH := Lib.hid hh
      have HT1 := Lib.hid ht1
      clear hh ht1
      go_wp2_with (go_at_call 33; refine (itoa_calls bd _ (by omega) (by omega) (HT1.out.keep (belowA (Below.refl _ _) _))).mono ?_; rintro e w2 ⟨rfl, hb2⟩)
      refine (writeB _ _ _ _ ([108, 111, 119, 101, 114, 32] ++ Lib.itoa bd ++ [10]) _ (by simp [ByteArray.data_append]) (bld_keep HBLD.out hb2) (by simp; omega) (by have := hb2.size; simp at this; omega)).mono ?_
      rintro e w3 ⟨rfl, hb3, hbe3, hk3⟩
      go_wp2_with fail
      go_meet
      exact ⟨by rw [HH.out]; exact hb3, ((belowA (Below.refl _ _) _).trans (hb2.mono (by simp))).trans hbe3⟩
  case rest =>
    obtain ⟨hbld, hBc⟩ := hcut
    have r0 : wc.cell? ⟨w.heap.size, 0, none⟩ = some (.int .i64 bd) := kept hBc q0
    have r1 : wc.cell? ⟨w.heap.size, 1, none⟩ = some (.slice A n c) := kept hBc q1
    clear q0 q1 HBLD
    have hfin : formatF bd l = match formatL (headB bd) l with | some t => (t, 0) | none => ([], 5) := by (rw [formatF, if_neg (by rw [HC.out]; simp)]) <;> rfl
    have HBLD := Lib.hid hbld
    have HFIN := Lib.hid hfin
    clear hbld hfin
    go_wp2
    go_loopg [28] n (fun g i wr => ∃ (k : Nat) (acc : List UInt8), k ≤ n ∧ g = n - k ∧ i = .int .i64 k ∧ Below w1.heap.size w1 wr ∧ Bld w1.heap.size w1.heap.size (Lib.byteCells acc) wr ∧ acc.length ≤ 65536 ∧ formatL (headB bd) l = formatL acc (l.drop k))
    case atStart => exact ⟨0, _, Nat.zero_le _, by omega, rfl, hBc, HBLD.out, by have := headB_len bd hb2; omega, rfl⟩
    case round =>
      obtain ⟨k, acc, hk, hg, rfl, hB, hbl, hacc, hF⟩ := hrel
      clear HBLD r0 r1 hBc
      have hBw : Below w.heap.size w wr := belowT hBw1 hB
      have hblt : w1.heap.size < wr.heap.size := bld_lt hbl
      have HG := Lib.hid hg
      have HF := Lib.hid hF
      have HBL := Lib.hid hbl
      clear hg hF hbl
      by_cases hlt : k < n
      · obtain ⟨b, off, fA, fn, fc, fs, d, rfl, c0w, hfn, hfm, hfs, c1w, hx, hd⟩ := HV.out.at hlt
        have c0 := kept hBw c0w
        have c1 := kept hBw c1w
        clear c0w c1w
        have hbr : b < wr.heap.size := lt_of_cell c0
        have hmem : (fs, d) ∈ l := List.mem_of_getElem? hx
        have hform := HFORM.out _ hmem
        obtain ⟨hd0, hd1⟩ := badDist_range hb1 hb2 (HDIST.out _ hmem)
        have hfl := formedF_len hform
        have hff := formedF_facts hform
        have hll := lineB_len d hd0 hd1
        have hfn64 : fn ≤ 64 := by simp only at hfl; omega
        have hil := Lib.itoa_length_le d (by omega) (by omega)
        simp only at hfl hff
        have HX := Lib.hid hx
        have HD := Lib.hid hd
        have HFS := Lib.hid hfs
        have HFN := Lib.hid hfn
        have HMEM := Lib.hid hmem
        have HFO := Lib.hid hform
        have HFF := Lib.hid hff
        clear hx hd hfs hfn hmem hform hff
        have ht := HTAB.out.keep hBw
        have HT := Lib.hid ht
        clear ht
        go_wp2_with (go_at_call 33; refine (itoa_calls d _ (by omega) (by omega) (HT.out.keep (belowA (Below.refl _ _) _))).mono ?_; rintro e w2 ⟨rfl, hb2'⟩)
        refine (writeB _ _ acc _ (lineB d) _ (by simp [lineB, ByteArray.data_append]) (bld_keep (bld_keep HBL.out (belowA (Below.refl _ _) _)) hb2') (by omega) (by have := hb2'.size; simp at this; omega)).mono ?_
        rintro e w3 ⟨rfl, hb3, hbe3, hk3⟩
        have hbox : w2.heap[wr.heap.size]? = some (.cells #[.slice fA fn fc, .int .i64 d] 45 (0, 0)) := by
          rw [hb2'.block _ (by simp)]; exact heap_alloc_new _ _
        have q0 : w3.cell? ⟨wr.heap.size, 0, none⟩ = some (.slice fA fn fc) := by rw [hk3.cell hbox (by decide)]; rfl
        have hB3 : Below w1.heap.size w1 w3 := ((hB.alloc (by omega) _).trans (hb2'.mono (by simp; omega))).trans hbe3
        have HB3 := Lib.hid hb3
        clear hb3
        clear c0 c1 hbe3 hb2'
        go_wp2
        obtain ⟨wo, rfl⟩ : ∃ wo : World, wo = wr := ⟨_, rfl⟩
        go_loopg [41] fn (fun g i wx => ∃ (j : Nat) (acc' : List UInt8), j ≤ fn ∧ g = fn - j ∧ i = .int .i64 j ∧ Below w1.heap.size w1 wx ∧ Bld w1.heap.size w1.heap.size (Lib.byteCells acc') wx ∧ acc'.length ≤ 65536 + 29 + 44 * j ∧ acc ++ nogoodB (fs, d) = acc' ++ (fs.drop j).flatMap factB ++ [10])
        case atStart => exact ⟨0, _, Nat.zero_le _, by omega, rfl, hB3, HB3.out, by simp; omega, by simp [nogoodB]⟩
        case round =>
          obtain ⟨j, acc', hj, hg', rfl, hBx, hbl', hacc', hFx⟩ := hrel
          clear HB3 q0 hB3
          have hblt' : w1.heap.size < wr.heap.size := bld_lt hbl'
          have hBwx : Below w.heap.size w wr := belowT hBw1 hBx
          have HG2 := Lib.hid hg'
          have HFX := Lib.hid hFx
          have HBL2 := Lib.hid hbl'
          clear hg' hFx hbl'
          by_cases hjt : j < fn
          · obtain ⟨b2, off2, x, y, rfl, c0, c1, hx2, hd2⟩ := (HFS.out.keep hBwx).at hjt
            have hbr2 : b2 < wr.heap.size := lt_of_cell c0
            obtain ⟨hx0, hx1, hy0, hy1⟩ := HFF.out _ (List.mem_of_getElem? hx2)
            simp only at hx0 hx1 hy0 hy1
            have hix := Lib.itoa_length_le x (by omega) (by omega)
            have hiy := Lib.itoa_length_le y (by omega) (by omega)
            have ht2 := HTAB.out.keep hBwx
            have HX2 := Lib.hid hx2
            have HD2 := Lib.hid hd2
            have HT2 := Lib.hid ht2
            clear hx2 hd2 ht2
            go_upto_region 15 with fail
            have g1 : (9223372036854775807 < 1 + (Lib.itoa x).length) = False := eq_false (by omega)
            have g2 : (9223372036854775807 < 1 + (Lib.itoa x).length + 1) = False := eq_false (by omega)
            have g3 : (9223372036854775807 < 1 + (Lib.itoa x).length + 1 + (Lib.itoa y).length) = False := eq_false (by omega)
            have b0 : Below wr.heap.size wr (wr.alloc (.cells #[.int .i64 x, .int .i64 y] 54)).drew := (belowA (Below.refl _ _) _).drew
            have b1 : Below w1.heap.size w1 (wr.alloc (.cells #[.int .i64 x, .int .i64 y] 54)).drew := hBx.trans (b0.mono (by omega))
            have b3 : Bld w1.heap.size w1.heap.size (Lib.byteCells acc') (wr.alloc (.cells #[.int .i64 x, .int .i64 y] 54)).drew := bld_keep HBL2.out b0
            have b4 : wr.heap.size < (wr.alloc (.cells #[.int .i64 x, .int .i64 y] 54)).drew.heap.size := by simp
            have b5 : (wr.alloc (.cells #[.int .i64 x, .int .i64 y] 54)).drew.heap[wr.heap.size]? = some (.cells #[.int .i64 x, .int .i64 y] 54 (0, 0)) := heap_alloc_new _ _
            have htx := HT2.out.keep b0
            have B0 := Lib.hid b0
            have B1 := Lib.hid b1
            have B3 := Lib.hid b3
            have B4 := Lib.hid b4
            have B5 := Lib.hid b5
            have HTX := Lib.hid htx
            clear b0 b1 b3 b4 b5 htx
            go_region_held3 (fun w' => w'.cell? ⟨wr.heap.size, 0, none⟩ = some (.int .i64 x) ∧ w'.cell? ⟨wr.heap.size, 1, none⟩ = some (.int .i64 y))
              (first | exact ⟨u0, u1⟩ | exact ⟨t0, t1⟩ | exact ⟨s0, s1⟩ | exact ⟨by simp [World.cell?_alloc_new], by simp [World.cell?_alloc_new]⟩)
              (first
                | (go_at_call_of 33 (Value.int .i64 x); refine (itoa_calls x _ (by omega) (by omega) HTX.out).mono ?_; rintro e wx ⟨rfl, hbx⟩; have s2 := B1.out.trans (hbx.mono (by have := B4.out; omega)); have s3 := bld_keep B3.out hbx; have s5 := (hbx.block _ B4.out).trans B5.out; have s4 := HTX.out.keep hbx; have s6 := Nat.lt_of_lt_of_le B4.out hbx.size; have S2 := Lib.hid s2; have S3 := Lib.hid s3; have S4 := Lib.hid s4; have S5 := Lib.hid s5; have S6 := Lib.hid s6; have s0 := Lib.cell_of_heap s5 0; have s1 := Lib.cell_of_heap s5 1; clear s2 s3 s4 s5 s6 hbx)
                | (go_at_call_of 33 (Value.int .i64 y); refine (itoa_calls y _ (by omega) (by omega) S4.out).mono ?_; rintro e wy ⟨rfl, hby⟩; have t2 := S2.out.trans (hby.mono (by have := S6.out; omega)); have t3 := bld_keep S3.out hby; have t5 := (hby.block _ S6.out).trans S5.out; have T2 := Lib.hid t2; have T3 := Lib.hid t3; have T5 := Lib.hid t5; have T6 := Lib.hid (Nat.lt_of_lt_of_le S6.out hby.size); have t0 := Lib.cell_of_heap t5 0; have t1 := Lib.cell_of_heap t5 1; clear t2 t3 t5 hby)
                | (go_at_call 32; refine (writeB _ _ acc' _ (factB (x, y)) _ (by simp [factB, ByteArray.data_append]) T3.out (by have := factB_len (x, y) ⟨hx0, hx1, hy0, hy1⟩; omega) (by have := T6.out; omega)).mono ?_; rintro e w3 ⟨rfl, hb3, hbe3, hk3⟩; have u0 := hk3.cell T5.out (by decide) 0; have u1 := hk3.cell T5.out (by decide) 1; have U2 := Lib.hid (T2.out.trans hbe3); have U3 := Lib.hid hb3; clear hb3 hbe3 hk3))
            clear u0 u1 t0 t1 s0 s1 g1 g2 g3
            go_wp2
            go_roundg (fn - (j + 1))
            case measure => have := HG2.out; omega
            case rel => exact ⟨j + 1, _, by omega, rfl, by go_num, U2.out, U3.out, by have := factB_len (x, y) ⟨hx0, hx1, hy0, hy1⟩; simp; omega, by rw [HFX.out, HD2.out]; simp⟩
          · have hnb : acc ++ nogoodB (fs, d) = acc' ++ [10] := by rw [HFX.out, List.drop_eq_nil_of_le (by have := HFN.out; omega)]; simp
            have HNB := Lib.hid hnb
            clear hnb
            go_wp2_with (go_at_call 32; refine (writeB _ _ acc' _ [10] _ rfl HBL2.out (by simp; omega) (by omega)).mono ?_; rintro e w4 ⟨rfl, hb4, hbe4, hk4⟩)
            refine (Tryd.Builder_Len _ _ _ _ hb4).mono ?_
            rintro e w5 ⟨rfl, rfl⟩
            obtain ⟨L, hL⟩ : ∃ L, L = (acc ++ nogoodB (fs, d)).length := ⟨_, rfl⟩
            have hlen : (Lib.byteCells (acc' ++ [10])).length = L := by rw [Lib.byteCells_length, hL, HNB.out]
            rw [hlen]
            have hb5' : Bld w1.heap.size w1.heap.size (Lib.byteCells (acc ++ nogoodB (fs, d))) w5 := by rw [HNB.out]; exact hb4
            have HLEN := Lib.hid hlen
            have HL := Lib.hid hL
            have HB4 := Lib.hid hb4
            have HB5 := Lib.hid hb5'
            clear hlen hL hb4 hb5'
            by_cases hbig : 65536 < L
            · have hnone : formatL (headB bd) l = none := by rw [HF.out, HD.out, formatL, if_pos (by rw [← HL.out]; exact hbig)]
              have hf2 : formatF bd l = ([], 5) := by rw [HFIN.out, hnone]
              have HNONE := Lib.hid hnone
              have HF2 := Lib.hid hf2
              clear hnone hf2
              go_wp2_with fail
              go_ret2
              exact ⟨by rw [HF2.out]; rfl, (belowT hBw1 hBx).trans (hbe4.mono (by omega))⟩
            · have hsome : formatL (headB bd) l = formatL (acc ++ nogoodB (fs, d)) (l.drop (k + 1)) := by rw [HF.out, HD.out, formatL, if_neg (by rw [← HL.out]; exact hbig)]
              have HSOME := Lib.hid hsome
              clear hsome
              go_wp2_with fail
              go_roundg (n - (k + 1))
              case measure => have := HG.out; omega
              case rel => exact ⟨k + 1, _, by omega, rfl, by go_num, hBx.trans hbe4, HB5.out, by have := HL.out; omega, HSOME.out⟩
      · have hsome : formatF bd l = (acc, 0) := by rw [HFIN.out, HF.out, List.drop_eq_nil_of_le (by have := HN.out; omega), formatL]
        have HSOME := Lib.hid hsome
        clear hsome
        go_wp2_with (go_at_call 35; refine (Tryd.Builder_String_any _ _ acc _ HBL.out (by omega)).mono ?_; rintro e w4 ⟨rfl, hbe4⟩)
        go_ret2
        exact ⟨by rw [HSOME.out]; rfl, hBw.trans (hbe4.mono (by omega))⟩
theorem format_calls (bd : Int) (v : Value) (l : List Nogood) (w : World) (hv : NogoodsAt w v l) (htab : TabOk w) :
    Calls Tryd.prog 16 #[.agg #[.int .i64 bd, v]] w fun e w' => e = .returned (.tuple #[.string ⟨(formatF bd l).1.toArray⟩, errV (formatF bd l).2]) ∧ Below w.heap.size w w' := by
  by_cases hc : checkF bd l = 0
  · exact format_ok bd v l w hv hc htab
  · have hf : formatF bd l = ([], checkF bd l) := by rw [formatF, if_pos hc]
    rw [hf]
    exact format_err bd v l w hv hc
end Go.Proofs.YticdfbhbbapbdaaDoor
/- stratagemlaw30.awake returns true; stratagemlaw30.large. -/
namespace Go.Proofs.YticdfbhbbapbdaaDoor
open Go.RowKit

theorem awake_text : formatF 3 [([(1, 2)], 0)] = ([108, 111, 119, 101, 114, 32, 51, 10, 110, 111, 103, 111, 111, 100, 32, 48, 58, 32, 49, 61, 50, 10], 0) := by
  have hc : checkF 3 [([(1, 2)], 0)] = 0 := by decide
  have i0 : Lib.itoa 0 = [48] := by rw [show (0 : Int) = ((0 : Nat) : Int) from rfl, Lib.itoa_nonneg, Lib.decDigits_one (by omega)]; rfl
  have i1 : Lib.itoa 1 = [49] := by rw [show (1 : Int) = ((1 : Nat) : Int) from rfl, Lib.itoa_nonneg, Lib.decDigits_one (by omega)]; rfl
  have i2 : Lib.itoa 2 = [50] := by rw [show (2 : Int) = ((2 : Nat) : Int) from rfl, Lib.itoa_nonneg, Lib.decDigits_one (by omega)]; rfl
  have i3 : Lib.itoa 3 = [51] := by rw [show (3 : Int) = ((3 : Nat) : Int) from rfl, Lib.itoa_nonneg, Lib.decDigits_one (by omega)]; rfl
  rw [formatF, if_neg (by rw [hc]; simp)]
  simp [formatL, headB, nogoodB, lineB, factB, i0, i1, i2, i3]

theorem awake_reads (w : World) : NogoodsAt ((w.alloc (.cells #[.int .i64 1, .int .i64 2] 54)).alloc (.cells #[.slice (some ⟨w.heap.size, 0, none⟩) 1 1, .int .i64 0] 45)) (.slice (some ⟨w.heap.size + 1, 0, none⟩) 1 1) [([(1, 2)], 0)] := by
  refine ⟨_, _, rfl, by simp, fun k x hx => ?_⟩
  have hk : k = 0 := by
    rcases Nat.lt_or_ge k 1 with h | h
    · omega
    · rw [List.getElem?_eq_none (by simpa using h)] at hx; cases hx
  subst hk
  injection hx with hx
  subst hx
  refine ⟨_, _, .slice (some ⟨w.heap.size, 0, none⟩) 1 1, rfl, ?_, ⟨_, _, rfl, by simp, fun k x hx => ?_⟩, ?_⟩
  · simp
  · have hk : k = 0 := by
      rcases Nat.lt_or_ge k 1 with h | h
      · omega
      · rw [List.getElem?_eq_none (by simpa using h)] at hx; cases hx
    subst hk
    injection hx with hx
    subst hx
    exact ⟨_, _, rfl, kept (belowA (Below.refl _ _) _) (by simp [World.cell?_alloc_new]), kept (belowA (Below.refl _ _) _) (by simp [World.cell?_alloc_new])⟩
  · simp

set_option maxHeartbeats 1000000 in
theorem awake_calls (w : World) (htab : TabOk w) : Calls Tryd.prog 11 #[] w fun e w' => e = .returned (.bool true) ∧ Below w.heap.size w w' := by
  have hB : Below w.heap.size w ((w.alloc (.cells #[.int .i64 1, .int .i64 2] 54)).alloc (.cells #[.slice (some ⟨w.heap.size, 0, none⟩) 1 1, .int .i64 0] 45)) := belowA (belowA (Below.refl _ _) _) _
  have hf := format_calls 3 _ _ _ (awake_reads w) (htab.keep hB)
  rw [awake_text, errV_zero] at hf
  have HF := Lib.hid hf
  have HB := Lib.hid hB
  clear hf hB
  clear htab
  go_enter Tryd.func11, Tryd.ntmps11
  go_wp2_with (go_at_call 16; refine HF.out.mono ?_; rintro e w1 ⟨rfl, hb1⟩)
  go_ret
  exact ⟨rfl, belowT HB.out hb1⟩

/-- the sum that 'large' computes -/
def largeL : Int → List Nogood → Int
  | n, [] => n
  | n, x :: r => largeL (wrap64 (n + x.1.length)) r
def largeF (l : List Nogood) : Bool := decide (400 < largeL l.length l)

set_option maxHeartbeats 1000000 in
theorem large_calls (bd : Int) (v : Value) (l : List Nogood) (w : World) (hv : NogoodsAt w v l) :
    Calls Tryd.prog 15 #[.agg #[.int .i64 bd, v]] w fun e w' => e = .returned (.bool (largeF l)) ∧ Below w.heap.size w w' := by
  obtain ⟨A, n, c, rfl, hn, hm⟩ := hv.form
  have HV := Lib.hid hv
  have HN := Lib.hid hn
  clear hv hn
  go_enter Tryd.func15, Tryd.ntmps15
  go_wp2
  go_loopg [3, 12] n (fun g s i wr => ∃ (k : Nat) (m : Int), k ≤ n ∧ g = n - k ∧ i = .int .i64 k ∧ s = .int .i64 m ∧ Below w.heap.size w wr ∧ largeL l.length l = largeL m (l.drop k))
  case atStart => exact ⟨0, n, Nat.zero_le _, by omega, rfl, rfl, belowA (Below.refl _ _) _, by rw [HN.out]; rfl⟩
  case round =>
    obtain ⟨k, m, hk, hg, rfl, rfl, hB, hF⟩ := hrel
    have HG := Lib.hid hg
    have HF := Lib.hid hF
    clear hg hF
    by_cases hlt : k < n
    · obtain ⟨b, off, fA, fn, fc, fs, d, rfl, c0, hfn, hfm, hfs, c1, hx, hd⟩ := (HV.out.keep hB).at hlt
      have hbr : b < wr.heap.size := lt_of_cell c0
      have HX := Lib.hid hx
      have HD := Lib.hid hd
      have HFS := Lib.hid hfs
      have HFN := Lib.hid hfn
      clear hx hd hfs hfn
      go_wp2
      go_roundg (n - (k + 1))
      case measure => have := HG.out; omega
      case rel => exact ⟨k + 1, _, by omega, rfl, by go_num, rfl, belowA hB _, by rw [HF.out, HD.out, largeL, HFN.out]⟩
    · have hfin : largeL l.length l = m := by rw [HF.out, List.drop_eq_nil_of_le (by have := HN.out; omega), largeL]
      have HFIN := Lib.hid hfin
      clear hfin
      go_wp2
      go_ret
      exact ⟨by rw [largeF, HFIN.out]; rfl, hB⟩
end Go.Proofs.YticdfbhbbapbdaaDoor
/- The abstract machine over the program of chapter 30; contracts of elder texts taken over. -/
namespace Go.Proofs.YticdfbhbbapbdaaDoor.Am
open Go.RowKit

theorem tab_block {w : World} (h : TabOk w) : ∃ cs t fr, w.heap[0]? = some (.cells cs t fr) := by
  unfold TabOk Lib.TabIs World.var? at h
  rw [gPow] at h
  simp only [Option.bind_some] at h
  split at h
  · exact ⟨_, _, _, by assumption⟩
  · cases h
theorem tab_keep {w w' : World} (hk : w'.heap[0]? = w.heap[0]?) (h : TabOk w) : TabOk w' := by
  unfold TabOk Lib.TabIs World.var? at h ⊢
  rw [gPow] at h ⊢
  simp only [Option.bind_some] at h ⊢
  rw [hk]
  exact h
/-- what is known of the package-level variables: the table, and that internal/bytealg.MaxLen holds a number -/
def GlOk (w : World) : Prop := TabOk w ∧ ∃ m, w.cell? ⟨1, 0, none⟩ = some (.int .i64 m)
noncomputable def cx : Cx := { P := Tryd.prog, N := 0 + 1 + 1, Gl := GlOk, keep := fun w w' hk h => ⟨tab_keep (hk _ (by decide)) h.1, by obtain ⟨m, hm⟩ := h.2; exact ⟨m, by rw [← hm]; exact World.cell?_of_block (hk _ (by decide))⟩⟩, T := tyTab, tyOk := tyTab_ok, mixed := by kernel_rfl }
theorem tab_size {w : World} (h : GlOk w) : cx.N ≤ w.heap.size := by
  obtain ⟨m, hm⟩ := h.2
  unfold World.cell? at hm
  split at hm
  · rename_i hb
    exact lt_of_block hb
  · cases hm
theorem kin_below {w w' : World} (h : Below w.heap.size w w') : Kin w (fun _ => False) w' := ⟨h.os, h.tape, h.output, h.size, fun b hb _ => h.block b hb⟩
theorem below_kin {w w' : World} (h : Kin w (fun _ => False) w') : Below w.heap.size w w' := ⟨h.os, h.tape, h.output, h.size, fun b hb => h.block b hb (fun h => h)⟩
theorem enter_of {f : FuncId} {fn : Func} {c : Code} (hf : Tryd.prog.funcs[f]? = some fn) (hb : fn.body = some c) (hname : (fn.name == "runtime.NumGoroutine") = false) (vs : Array Value) (w : World) : (callFunc f vs).run cx.P w = .ok (.enter f vs) w := by
  have hf' : cx.P.funcs[f]? = some fn := hf
  simp only [callFunc, Sem.run_bind, program, Sem.run, Result.andThen_ok, hf', hname, hb]
  rfl
theorem acall_elder {f : FuncId} {fn : Func} {c : Code} {args : List AV} {r : AV} (hf : Tryd.prog.funcs[f]? = some fn) (hb : fn.body = some c) (hname : (fn.name == "runtime.NumGoroutine") = false)
    (h : ∀ (w : World) (O : Nat → Prop) (cargs : Array Value), TabOk w → (∀ b, O b → b < w.heap.size) → cargs.toList.length = args.length → (∀ (j : Nat) (x : AV) (v : Value), args[j]? = some x → cargs[j]? = some v → RV w nov (mO O) x v) →
      Calls Tryd.prog f cargs w (fun e w' => ∃ v, e = .returned v ∧ RV w' nov (mO O) r v ∧ Below w.heap.size w w')) : ACall cx f args r := by
  refine ⟨enter_of hf hb hname, fun w O cargs hg _ hO hs hr => ?_⟩
  refine Calls.mono (h w O cargs hg.1 (fun b hb => (hO b hb).1) (by simpa using hs) hr) ?_
  rintro e w' ⟨v, h1, h2, h3⟩
  exact ⟨v, h1, h2, kin_below h3, cx.keep w w' (fun b hb => h3.block b (Nat.lt_of_lt_of_le hb (tab_size hg))) hg⟩
/-- a law that returns true -/
theorem law_of {f : FuncId} {args : List AV} {w : World} {cargs : Array Value} (h : ACall cx f args (.c (.bool true))) (ht : GlOk w) (hs : cargs.size = args.length) (hr : ∀ (j : Nat) (x : AV) (v : Value), args[j]? = some x → cargs[j]? = some v → RV w nov (mO (fun _ => False)) x v) :
    Calls Tryd.prog f cargs w fun e w' => e = .returned (.bool true) ∧ Below w.heap.size w w' := by
  refine Calls.mono (h.2 w (fun _ => False) cargs ht (tab_size ht) (fun b hb => hb.elim) hs hr) ?_
  rintro e w' ⟨v, rfl, h1, h2, _⟩
  rw [rv_c h1]
  exact ⟨rfl, below_kin h2⟩

/-- sizes that the form of the statement grants -/
def SzN (l : List Nogood) : Prop := l.length * 32 ≤ 140737488355328 ∧ ∀ x ∈ l, x.1.length * 16 ≤ 140737488355328
def aC (bd : Int) (l : List Nogood) : AV := .agg [.c (.int .i64 bd), .sl 2 (l.map cN)]
theorem cert_arg {w : World} {vs : Shp} {m : MM} {bd : Int} {l : List Nogood} {v : Value} (h : RV w vs m (aC bd l) v) (hl : SzN l) : ∃ nv, v = .agg #[.int .i64 bd, nv] ∧ NogoodsAt w nv l := by
  obtain ⟨us, rfl, h1, h2⟩ := rv_agg h
  have hs : us.size = 2 := h1.symm
  have g0 := h2 0 _ us[0] rfl (Array.getElem?_eq_getElem (by omega))
  have g1 := h2 1 _ us[1] rfl (Array.getElem?_eq_getElem (by omega))
  refine ⟨us[1], ?_, rv_nogoods g1 hl.1 hl.2⟩
  rw [← rv_c g0]
  congr 1
  exact Array.ext (by simp [hs]) (fun i h1 h2 => by
    have : i = 0 ∨ i = 1 := by omega
    rcases this with rfl | rfl <;> simp)
theorem args1 {cargs : Array Value} (h : cargs.toList.length = 1) : ∃ a, cargs = #[a] := by
  obtain ⟨a, ha⟩ := List.length_eq_one_iff.1 h
  exact ⟨a, Array.ext' ha⟩
theorem args2 {cargs : Array Value} (h : cargs.toList.length = 2) : ∃ a b, cargs = #[a, b] := by
  match hc : cargs.toList, h with
  | [a, b], _ => exact ⟨a, b, Array.ext' hc⟩
theorem args3 {cargs : Array Value} (h : cargs.toList.length = 3) : ∃ a b c, cargs = #[a, b, c] := by
  match hc : cargs.toList, h with
  | [a, b, c], _ => exact ⟨a, b, c, Array.ext' hc⟩
def errA (z : Int) : AV := if z = 0 then .c .nilIface else .ifc 55 (.c (.int .i64 z))
theorem err_rv {w : World} {vs : Shp} {m : MM} (z : Int) : RV w vs m (errA z) (errV z) := by
  unfold errA errV
  split
  · exact .c _
  · exact .ifc (.c _)

theorem large_A (bd : Int) (l : List Nogood) (hl : SzN l) : ACall cx 15 [aC bd l] (.c (.bool (largeF l))) := by
  refine acall_elder Tryd.func15 rfl (by decide) (fun w O cargs ht _ hs hr => ?_)
  obtain ⟨a, rfl⟩ := args1 hs
  obtain ⟨nv, rfl, hn⟩ := cert_arg (hr 0 _ a rfl rfl) hl
  refine (large_calls bd nv l w hn).mono ?_
  rintro e w' ⟨rfl, hb⟩
  exact ⟨_, rfl, .c _, hb⟩
theorem awake_A : ACall cx 11 [] (.c (.bool true)) := by
  refine acall_elder Tryd.func11 rfl (by decide) (fun w O cargs ht _ hs hr => ?_)
  obtain rfl : cargs = #[] := Array.ext' (List.length_eq_zero_iff.1 hs)
  refine (awake_calls w ht).mono ?_
  rintro e w' ⟨rfl, hb⟩
  exact ⟨_, rfl, .c _, hb⟩
theorem check_A (bd : Int) (l : List Nogood) (hl : SzN l) : ACall cx 13 [aC bd l] (errA (checkF bd l)) := by
  refine acall_elder Tryd.func13 rfl (by decide) (fun w O cargs ht _ hs hr => ?_)
  obtain ⟨a, rfl⟩ := args1 hs
  obtain ⟨nv, rfl, hn⟩ := cert_arg (hr 0 _ a rfl rfl) hl
  refine (check_calls bd nv l w hn).mono ?_
  rintro e w' ⟨rfl, hb⟩
  exact ⟨_, rfl, err_rv _, hb⟩
theorem same_A (b1 b2 : Int) (a b : List Nogood) (ha : SzN a) (hb : SzN b) : ACall cx 22 [aC b1 a, aC b2 b] (.c (.bool (sameC b1 a b2 b))) := by
  refine acall_elder Tryd.func22 rfl (by decide) (fun w O cargs ht _ hs hr => ?_)
  obtain ⟨u, v, rfl⟩ := args2 hs
  obtain ⟨nu, rfl, h1⟩ := cert_arg (hr 0 _ u rfl rfl) ha
  obtain ⟨nv, rfl, h2⟩ := cert_arg (hr 1 _ v rfl rfl) hb
  refine (same_calls b1 b2 nu nv a b w h1 h2).mono ?_
  rintro e w' ⟨rfl, hb⟩
  exact ⟨_, rfl, .c _, hb⟩
theorem Contains_A (a b : List Fact) (ha : a.length * 16 ≤ 140737488355328) (hb : b.length * 16 ≤ 140737488355328) : ACall cx 27 [.sl 2 (a.map cF), .sl 2 (b.map cF)] (.c (.bool (ContainsF a b))) := by
  refine acall_elder Tryd.func27 rfl (by decide) (fun w O cargs ht _ hs hr => ?_)
  obtain ⟨u, v, rfl⟩ := args2 hs
  refine (Contains_calls u v a b w (rv_facts (hr 0 _ u rfl rfl) ha) (rv_facts (hr 1 _ v rfl rfl) hb)).mono ?_
  rintro e w' ⟨rfl, hb⟩
  exact ⟨_, rfl, .c _, hb⟩
theorem claims_A (bd : Int) (l : List Nogood) (s : List Int) (d : Int) (hl : SzN l) (hs0 : s.length * 8 ≤ 140737488355328) : ACall cx 18 [aC bd l, .sl 1 (s.map cI), .c (.int .i64 d)] (.c (.bool (claimsF bd l s d))) := by
  refine acall_elder Tryd.func18 rfl (by decide) (fun w O cargs ht _ hs hr => ?_)
  obtain ⟨u, v, z, rfl⟩ := args3 hs
  obtain ⟨nu, rfl, h1⟩ := cert_arg (hr 0 _ u rfl rfl) hl
  have hz := rv_c (hr 2 _ z rfl rfl)
  subst hz
  refine (claims_calls bd nu v l s d w h1 (rv_ints (hr 1 _ v rfl rfl) hs0)).mono ?_
  rintro e w' ⟨rfl, hb⟩
  exact ⟨_, rfl, .c _, hb⟩
/-- a row of new memory, as a value -/
theorem row_rv {w : World} {base E sz n : Nat} {v : Value} {xs : List Value} {O : Nat → Prop} {els : List (List AV)} (h : w.ownsRow base E sz v n xs) (hO : ∀ b, O b → b < base) (hl : els.length = n) (hmax : n ≤ 140737488355328) (hfr : FrL els) (hsz : ∀ (k : Nat) (e : List AV), els[k]? = some e → e.length = sz)
    (hc : ∀ (k j : Nat) (e : List AV) (y : AV), els[k]? = some e → e[j]? = some y → ∃ u, xs[k * sz + j]? = some u ∧ u.oneCell' = true ∧ RV w nov (mO O) y u) : RV w nov (mO O) (.sl sz els) v := by
  rcases id h.2 with ⟨rfl, h0⟩ | ⟨g, cap, cur, rfl, hb, hh, hnc, _, _, htake⟩
  · obtain rfl : els = [] := List.length_eq_zero_iff.1 (by omega)
    exact nil_rv _ _
  · have hcell : ∀ (k j : Nat) (e : List AV) (y : AV), els[k]? = some e → e[j]? = some y → ∃ u, w.cell? ⟨g, 0 + (k * sz + j), none⟩ = some u ∧ u.oneCell' = true ∧ RV w nov (mO O) y u := fun k j e y hk hj => by
      obtain ⟨u, u1, u2, u3⟩ := hc k j e y hk hj
      refine ⟨u, ?_, u2, u3⟩
      rw [← htake, List.getElem?_take] at u1
      split at u1
      · rw [Nat.zero_add]
        simp only [World.cell?, hh]
        simpa using u1
      · cases u1
    have := RV.sl (w := w) (vs := nov) (m := mO O) (sz := sz) (l := els) (A := some ⟨g, 0, none⟩) (cap := cap) (b := g) (off := 0) (f := fun k j => (w.cell? ⟨g, 0 + (k * sz + j), none⟩).getD undef)
      (fun _ => ⟨rfl, fun ho => ?_, lt_of_block hh⟩) (by omega) (by omega) hsz (fun k j e y hk hj => ?_) (fun k j e y hk hj => ?_) hfr
    · rw [hl] at this
      exact this
    · have := hO g (owned_nov.1 ho)
      omega
    · obtain ⟨u, u1, u2, _⟩ := hcell k j e y hk hj
      rw [u1]
      exact ⟨rfl, u2⟩
    · obtain ⟨u, u1, _, u3⟩ := hcell k j e y hk hj
      rw [u1]
      exact u3
theorem ownF_rv {w : World} {base : Nat} {v : Value} {l : List Fact} {O : Nat → Prop} (h : OwnF w base v l) (hO : ∀ b, O b → b < base) (hl : l.length * 16 ≤ 140737488355328) : RV w nov (mO O) (.sl 2 (l.map cF)) v := by
  refine row_rv h hO (by simp) (by omega) (frl_cF l) (fun k e hk => ?_) (fun k j e y hk hj => ?_)
  · obtain ⟨x, _, rfl⟩ := get_map hk
    rfl
  · obtain ⟨x, hx, rfl⟩ := get_map hk
    obtain ⟨a, b⟩ := factCells_at l k x hx
    match j, hj with
    | 0, hj => simp [cF] at hj; subst hj; exact ⟨_, a, rfl, .c _⟩
    | 1, hj => simp [cF] at hj; subst hj; exact ⟨_, b, rfl, .c _⟩
    | j + 2, hj => simp [cF] at hj
theorem ownN_rv {w : World} {base : Nat} {v : Value} {l : List Nogood} {O : Nat → Prop} (h : OwnN w base v l) (hO : ∀ b, O b → b < base) (hl : l.length * 32 ≤ 140737488355328) : RV w nov (mO O) (.sl 2 (l.map cN)) v := by
  obtain ⟨its, h1, ho, h3⟩ := h
  have hlen : its.length = l.length := by rw [← h1]; simp
  refine row_rv ho hO (by simp) (by omega) (frl_cN l) (fun k e hk => ?_) (fun k j e y hk hj => ?_)
  · obtain ⟨x, _, rfl⟩ := get_map hk
    rfl
  · obtain ⟨x, hx, rfl⟩ := get_map hk
    have hk' : k < its.length := by rw [hlen]; exact (List.getElem?_eq_some_iff.1 hx).1
    have hit : its[k]? = some its[k] := List.getElem?_eq_getElem hk'
    have hx2 : its[k].2 = x := by
      rw [← h1, List.getElem?_map, hit] at hx
      injection hx
    obtain ⟨a, b⟩ := itemCells_at its k _ hit
    obtain ⟨e1, e2⟩ := h3 its[k] (List.getElem_mem _)
    rw [hx2] at b e1 e2
    match j, hj with
    | 0, hj => simp [cN] at hj; subst hj; exact ⟨_, a, rfl, ownF_rv e1 hO e2⟩
    | 1, hj => simp [cN] at hj; subst hj; exact ⟨_, b, rfl, .c _⟩
    | j + 2, hj => simp [cN] at hj
theorem cert_rv {w : World} {O : Nat → Prop} {bd : Int} {l : List Nogood} {nv : Value} (h : RV w nov (mO O) (.sl 2 (l.map cN)) nv) : RV w nov (mO O) (aC bd l) (.agg #[.int .i64 bd, nv]) := by
  refine .agg rfl (fun j x u hx hu => ?_)
  match j, hx, hu with
  | 0, hx, hu => simp at hx hu; subst hx hu; exact .c _
  | 1, hx, hu => simp at hx hu; subst hx hu; exact h
  | j + 2, hx, hu => simp at hx
theorem sort_A (bd : Int) (l : List Nogood) (hl : SzN l) : ACall cx 23 [aC bd l] (aC bd (sortC bd l)) := by
  refine acall_elder Tryd.func23 rfl (by decide) (fun w O cargs ht hO hs hr => ?_)
  obtain ⟨a, rfl⟩ := args1 hs
  obtain ⟨nv, rfl, hn⟩ := cert_arg (hr 0 _ a rfl rfl) hl
  refine (sort_calls bd nv l w hn).mono ?_
  rintro e w' ⟨v', rfl, ho, hb⟩
  have hlen : (sortC bd l).length = l.length := by
    unfold sortC
    split
    · exact (sortN_perm l).length_eq
    · rfl
  exact ⟨_, rfl, cert_rv (ownN_rv ho hO (by rw [hlen]; exact hl.1)), hb⟩
theorem clone_A (bd : Int) (l : List Nogood) (hl : SzN l) : ACall cx 43 [aC bd l] (aC bd l) := by
  refine acall_elder Tryd.func43 rfl (by decide) (fun w O cargs ht hO hs hr => ?_)
  obtain ⟨a, rfl⟩ := args1 hs
  obtain ⟨nv, rfl, hn⟩ := cert_arg (hr 0 _ a rfl rfl) hl
  refine (clone_calls bd nv l w hn).mono ?_
  rintro e w' ⟨v', rfl, ho, hb⟩
  exact ⟨_, rfl, cert_rv (ownN_rv ho hO hl.1), hb⟩
end Go.Proofs.YticdfbhbbapbdaaDoor.Am
/- Equality of facts and the test for the document's errors, for the decompiler's proofs. -/
namespace Go.Proofs.YticdfbhbbapbdaaDoor.Am
open Go.RowKit
set_option maxRecDepth 100000 in
theorem eqFact (p q p' q' : Int) (w : World) : (Op.equal 54 (.agg #[.int .i64 p, .int .i64 q]) (.agg #[.int .i64 p', .int .i64 q'])).run cx.P w = .ok (p == p' && q == q') w := by
  show (Op.equalIn (9999 + 1) 54 _ _).run Tryd.prog w = _
  have hf : Tryd.prog.fieldsOf 54 = #[⟨"Var", 3, 0, false, "", "", 0⟩, ⟨"Val", 3, 1, false, "", "", 8⟩] := by kernel_rfl
  rw [run_equalIn_struct (P := Tryd.prog) w 9999 54 _ _ (by kernel_rfl) (by kernel_rfl), hf]
  have hi : ∀ (a b : Int) (w : World), (Op.equalIn 9999 3 (.int .i64 a) (.int .i64 b)).run Tryd.prog w = .ok (a == b) w := by
    intro a b w
    show (Op.equalIn (9998 + 1) 3 _ _).run Tryd.prog w = _
    rw [Op.equalIn]
    simp only [Sem.run_bind, run_underlying Tryd.underlying3, Result.andThen_ok]
    simp [Sem.run_pure]
  have hp0 : ∀ (a b : Int) (w : World), (part 3 #[.int .i64 a, .int .i64 b] 0).run Tryd.prog w = .ok (.int .i64 a) w := fun a b w => by kernel_rfl
  have hp1 : ∀ (a b : Int) (w : World), (part 3 #[.int .i64 a, .int .i64 b] 1).run Tryd.prog w = .ok (.int .i64 b) w := fun a b w => by kernel_rfl
  simp only [Op.eqFields]
  simp [hi, hp0, hp1]
  by_cases h : p = p' <;> by_cases h2 : q = q' <;> simp [h, h2]
theorem eqFactG (op : BinOp) (x y : Operand) (p q p' q' : Int) (w : World) : (eqGuard op 54 x y (.agg #[.int .i64 p, .int .i64 q]) (.agg #[.int .i64 p', .int .i64 q'])).run cx.P w = .ok () w := by
  have hG : Tryd.prog.eqGuardType Tryd.prog.depth 54 = false := by kernel_rfl
  show (eqGuard op 54 x y _ _).run Tryd.prog w = _
  cases op <;> simp [eqGuard, hG]
set_option maxRecDepth 100000 in
theorem asErrno (v : Value) (w : World) : (Instr.typeAssert (.iface 55 v) 28 55 true).run cx.P w = .ok (.tuple #[v, .bool true]) w := by kernel_rfl
end Go.Proofs.YticdfbhbbapbdaaDoor.Am
/- Contracts of strings.Split, Cut, CutPrefix, and of elder texts of chapter 30, as models. -/
namespace Go.Proofs.YticdfbhbbapbdaaDoor.Am
open Go.RowKit

theorem acall_gl {f : FuncId} {fn : Func} {c : Code} {args : List AV} {r : AV} (hf : Tryd.prog.funcs[f]? = some fn) (hb : fn.body = some c) (hname : (fn.name == "runtime.NumGoroutine") = false)
    (h : ∀ (w : World) (O : Nat → Prop) (cargs : Array Value), GlOk w → (∀ b, O b → b < w.heap.size) → cargs.toList.length = args.length → (∀ (j : Nat) (x : AV) (v : Value), args[j]? = some x → cargs[j]? = some v → RV w nov (mO O) x v) →
      Calls Tryd.prog f cargs w (fun e w' => ∃ v, e = .returned v ∧ RV w' nov (mO O) r v ∧ Below w.heap.size w w')) : ACall cx f args r := by
  refine ⟨enter_of hf hb hname, fun w O cargs hg _ hO hs hr => ?_⟩
  refine Calls.mono (h w O cargs hg (fun b hb => (hO b hb).1) (by simpa using hs) hr) ?_
  rintro e w' ⟨v, h1, h2, h3⟩
  exact ⟨v, h1, h2, kin_below h3, cx.keep w w' (fun b hb => h3.block b (Nat.lt_of_lt_of_le hb (tab_size hg))) hg⟩
/-- strings.Split by a separator that is not empty -/
def M_strings_Split (s sep : ByteArray) : Option (List ByteArray) := grd (s.size < 4294967281) (grd (1 ≤ sep.size) (some (Lib.splitB sep 0 (Lib.countB s sep) s)))
theorem splitB_le (sep : ByteArray) : ∀ (k : Nat) (s : ByteArray), (Lib.splitB sep 0 k s).length ≤ k + 1
  | 0, s => by simp [Lib.splitB]
  | k + 1, s => by
    rw [Lib.splitB]
    split
    · simp
    · have := splitB_le sep k (s.extract ((Lib.indexB s sep).toNat + sep.size) s.size)
      simp
      omega
theorem splitB_all (sep : ByteArray) (h1 : 1 ≤ sep.size) : ∀ (n : Nat) (s : ByteArray), s.size ≤ n → (Lib.splitB sep 0 (Lib.countB s sep) s).length = Lib.countB s sep + 1
  | 0, s, hn => by
    rcases Lib.indexB_cases s sep with hix | ⟨i, _, hroom⟩
    · rw [Lib.countB_miss s sep hix]; rfl
    · omega
  | n + 1, s, hn => by
    rcases Lib.indexB_cases s sep with hix | ⟨i, hi, hroom⟩
    · rw [Lib.countB_miss s sep hix]; rfl
    · rw [Lib.countB_hit s sep i h1 hi, Nat.add_comm 1, Lib.splitB_hit _ _ _ _ _ hi]
      have hsz : (s.extract (i + sep.size) s.size).size ≤ n := by rw [ByteArray.size_extract]; omega
      simp [splitB_all sep h1 n _ hsz]
theorem A_strings_Split (s sep : ByteArray) {r : List ByteArray} (h : M_strings_Split s sep = some r) : ACall cx 53 [.c (.string s), .c (.string sep)] (.sl 1 (r.map cS)) := by
  obtain ⟨h1, h⟩ := grd_ok h
  obtain ⟨h2, h⟩ := grd_ok h
  obtain rfl := Option.some.inj h
  refine acall_gl Tryd.func53 rfl (by decide) (fun w O cargs ht hO hs hr => ?_)
  obtain ⟨a, b, rfl⟩ := args2 hs
  obtain rfl := rv_c (hr 0 _ a rfl rfl)
  obtain rfl := rv_c (hr 1 _ b rfl rfl)
  obtain ⟨m, hm⟩ := ht.2
  refine (Tryd.strings_Split s sep m w h1 hm h2).mono ?_
  rintro e w' ⟨rfl, rfl⟩
  obtain ⟨l, hl⟩ : ∃ l, Lib.splitB sep 0 (Lib.countB s sep) s = l := ⟨_, rfl⟩
  have hlen : l.length = Lib.countB s sep + 1 := by rw [← hl]; exact splitB_all sep h2 s.size s (Nat.le_refl _)
  have hcs : Lib.countB s sep + 1 ≤ 140737488355328 := by have := Lib.countB_le sep h2 s.size s (Nat.le_refl _); omega
  rw [hl]
  refine ⟨_, rfl, ?_, (Below.refl _ _).trans ⟨rfl, rfl, rfl, by show w.heap.size ≤ (w.heap.push _).size; simp, fun b hb => ?_⟩⟩
  · have := RV.sl (w := w.alloc (.cells (l.map Value.string).toArray 9)) (vs := nov) (m := mO O) (sz := 1) (l := l.map cS) (A := some ⟨w.heap.size, 0, none⟩) (cap := Lib.countB s sep + 1) (b := w.heap.size) (off := 0) (f := fun k _ => .string (l.getD k ⟨#[]⟩))
      (fun _ => ⟨rfl, fun ho => by have := hO _ (owned_nov.1 ho); omega, by show w.heap.size < (w.heap.push _).size; simp⟩) (by simp [hlen]) (by simp [hlen]; omega)
      (fun k e he => by obtain ⟨x, _, rfl⟩ := get_map he; rfl)
      (fun k j e x he hx => by
        obtain ⟨y, hy, rfl⟩ := get_map he
        cases j with
        | zero =>
          have hb := heap_alloc_new w (.cells (l.map Value.string).toArray 9)
          refine ⟨?_, rfl⟩
          simp only [World.cell?, hb]
          simp [hy, List.getD_eq_getElem?_getD]
        | succ j => simp [cS] at hx)
      (fun k j e x he hx => by
        obtain ⟨y, hy, rfl⟩ := get_map he
        cases j with
        | zero =>
          simp [cS] at hx
          subst hx
          simp only [List.getD_eq_getElem?_getD, hy, Option.getD_some]
          exact .c _
        | succ j => simp [cS] at hx) (frl_cS l)
    simp only [List.length_map, hlen] at this
    exact this
  · show (w.heap.push _)[b]? = w.heap[b]?
    rw [Array.getElem?_push, if_neg (by omega)]
def cutB (s sep : ByteArray) : ByteArray × ByteArray × Bool := (⟨(Lib.cut s.data.toList sep.data.toList).1.toArray⟩, ⟨(Lib.cut s.data.toList sep.data.toList).2.1.toArray⟩, (Lib.cut s.data.toList sep.data.toList).2.2)
def M_strings_Cut (s sep : ByteArray) : Option (ByteArray × ByteArray × Bool) := grd (s.size < 4294967281) (some (cutB s sep))
theorem A_strings_Cut (s sep : ByteArray) {r1 r2 : ByteArray} {r3 : Bool} (h : M_strings_Cut s sep = some (r1, r2, r3)) : ACall cx 69 [.c (.string s), .c (.string sep)] (.tup [.c (.string r1), .c (.string r2), .c (.bool r3)]) := by
  obtain ⟨h1, h⟩ := grd_ok h
  obtain ⟨rfl, rfl, rfl⟩ := inj3 h
  refine acall_gl Tryd.func69 rfl (by decide) (fun w O cargs ht hO hs hr => ?_)
  obtain ⟨a, b, rfl⟩ := args2 hs
  obtain rfl := rv_c (hr 0 _ a rfl rfl)
  obtain rfl := rv_c (hr 1 _ b rfl rfl)
  obtain ⟨m, hm⟩ := ht.2
  refine (Tryd.strings_Cut s sep m w h1 hm).mono ?_
  rintro e w' ⟨rfl, n, rfl⟩
  refine ⟨_, rfl, .tup rfl (fun j x u hx hu => ?_), below_drewN (Below.refl _ _) n⟩
  match j, hx, hu with
  | 0, hx, hu => simp at hx hu; subst hx hu; exact .c _
  | 1, hx, hu => simp at hx hu; subst hx hu; exact .c _
  | 2, hx, hu => simp at hx hu; subst hx hu; exact .c _
  | j + 3, hx, hu => simp at hx
def M_strings_CutPrefix (s p : ByteArray) : Option (ByteArray × Bool) := some (⟨(Lib.trimPrefix s.data.toList p.data.toList).toArray⟩, Lib.hasPrefix s.data.toList p.data.toList)
theorem A_strings_CutPrefix (s p : ByteArray) {r1 : ByteArray} {r2 : Bool} (h : M_strings_CutPrefix s p = some (r1, r2)) : ACall cx 67 [.c (.string s), .c (.string p)] (.tup [.c (.string r1), .c (.bool r2)]) := by
  obtain ⟨rfl, rfl⟩ := inj2 h
  refine acall_gl Tryd.func67 rfl (by decide) (fun w O cargs ht hO hs hr => ?_)
  obtain ⟨a, b, rfl⟩ := args2 hs
  obtain rfl := rv_c (hr 0 _ a rfl rfl)
  obtain rfl := rv_c (hr 1 _ b rfl rfl)
  refine (Tryd.strings_CutPrefix s p w).mono ?_
  rintro e w' ⟨rfl, rfl⟩
  refine ⟨_, rfl, .tup rfl (fun j x u hx hu => ?_), Below.refl _ _⟩
  match j, hx, hu with
  | 0, hx, hu => simp at hx hu; subst hx hu; exact .c _
  | 1, hx, hu => simp at hx hu; subst hx hu; exact .c _
  | j + 2, hx, hu => simp at hx
/-- certificates -/
structure GCertificate where
  Bound : Int
  Nogoods : List Nogood
  deriving DecidableEq
def cGCertificate (x : GCertificate) : List AV := [.c (.int .i64 x.Bound), .sl 2 (x.Nogoods.map cN)]
theorem fr_cGCertificate (x : GCertificate) : ∀ y ∈ cGCertificate x, Fr y := FrC_cons (.c _) (FrC_cons (.sl (frl_cN _)) (FrC_nil))
theorem frl_cGCertificate (l : List GCertificate) : FrL (l.map cGCertificate) := FrL_map (fun x _ => fr_cGCertificate x)
instance {l : List GCertificate} : FrI (l.map cGCertificate) := ⟨frl_cGCertificate l⟩
/-- small enough for the elder contracts -/
def smallN (l : List Nogood) : Bool := decide (l.length * 32 ≤ 140737488355328) && l.all (fun x => decide (x.1.length * 16 ≤ 140737488355328))
theorem smallN_sz {l : List Nogood} (h : smallN l = true) : SzN l := by
  simp only [smallN, Bool.and_eq_true, decide_eq_true_eq, List.all_eq_true] at h
  exact h
def erOf (z : Int) : Er := if z = 0 then .nil else .no z
theorem errA_eA (z : Int) : errA z = eA (erOf z) := by
  unfold errA erOf
  split <;> rfl
def M_certificate_Check (c : GCertificate) : Option Er := grd (smallN c.Nogoods = true) (some (erOf (checkF c.Bound c.Nogoods)))
theorem A_certificate_Check (c : GCertificate) {r : Er} (h : M_certificate_Check c = some r) : ACall cx 13 [.agg [.c (.int .i64 c.Bound), .sl 2 (c.Nogoods.map cN)]] (eA r) := by
  obtain ⟨h1, h⟩ := grd_ok h
  obtain rfl := Option.some.inj h
  rw [← errA_eA]
  exact check_A c.Bound c.Nogoods (smallN_sz h1)
def M_stratagemref30_Check (c : GCertificate) : Option Int := grd (smallN c.Nogoods = true) (some (checkF c.Bound c.Nogoods))
theorem A_stratagemref30_Check (c : GCertificate) {r : Int} (h : M_stratagemref30_Check c = some r) : ACall cx 14 [.agg [.c (.int .i64 c.Bound), .sl 2 (c.Nogoods.map cN)]] (.c (.int .i64 r)) := by
  obtain ⟨h1, h⟩ := grd_ok h
  obtain rfl := Option.some.inj h
  refine acall_elder Tryd.func14 rfl (by decide) (fun w O cargs ht _ hs hr => ?_)
  obtain ⟨a, rfl⟩ := args1 hs
  obtain ⟨nv, rfl, hn⟩ := cert_arg (hr 0 _ a rfl rfl) (smallN_sz h1)
  refine (rcheck_calls c.Bound nv c.Nogoods w hn).mono ?_
  rintro e w' ⟨rfl, hb⟩
  exact ⟨_, rfl, .c _, hb⟩
def M_stratagemlaw30_Same (x y : GCertificate) : Option Bool := grd (smallN x.Nogoods = true) (grd (smallN y.Nogoods = true) (some (sameC x.Bound x.Nogoods y.Bound y.Nogoods)))
theorem A_stratagemlaw30_Same (x y : GCertificate) {r : Bool} (h : M_stratagemlaw30_Same x y = some r) : ACall cx 22 [.agg [.c (.int .i64 x.Bound), .sl 2 (x.Nogoods.map cN)], .agg [.c (.int .i64 y.Bound), .sl 2 (y.Nogoods.map cN)]] (.c (.bool r)) := by
  obtain ⟨h1, h⟩ := grd_ok h
  obtain ⟨h2, h⟩ := grd_ok h
  obtain rfl := Option.some.inj h
  exact same_A x.Bound y.Bound x.Nogoods y.Nogoods (smallN_sz h1) (smallN_sz h2)
def M_stratagemlaw30_large (c : GCertificate) : Option Bool := grd (smallN c.Nogoods = true) (some (largeF c.Nogoods))
theorem A_stratagemlaw30_large (c : GCertificate) {r : Bool} (h : M_stratagemlaw30_large c = some r) : ACall cx 15 [.agg [.c (.int .i64 c.Bound), .sl 2 (c.Nogoods.map cN)]] (.c (.bool r)) := by
  obtain ⟨h1, h⟩ := grd_ok h
  obtain rfl := Option.some.inj h
  exact large_A c.Bound c.Nogoods (smallN_sz h1)
def M_certificate_Format (c : GCertificate) : Option (ByteArray × Er) := grd (smallN c.Nogoods = true) (some (⟨(formatF c.Bound c.Nogoods).1.toArray⟩, erOf (formatF c.Bound c.Nogoods).2))
theorem A_certificate_Format (c : GCertificate) {r1 : ByteArray} {r2 : Er} (h : M_certificate_Format c = some (r1, r2)) : ACall cx 16 [.agg [.c (.int .i64 c.Bound), .sl 2 (c.Nogoods.map cN)]] (.tup [.c (.string r1), eA r2]) := by
  obtain ⟨h1, h⟩ := grd_ok h
  obtain ⟨rfl, rfl⟩ := inj2 h
  refine acall_elder Tryd.func16 rfl (by decide) (fun w O cargs ht _ hs hr => ?_)
  obtain ⟨a, rfl⟩ := args1 hs
  obtain ⟨nv, rfl, hn⟩ := cert_arg (hr 0 _ a rfl rfl) (smallN_sz h1)
  refine (format_calls c.Bound nv c.Nogoods w hn ht).mono ?_
  rintro e w' ⟨rfl, hb⟩
  refine ⟨_, rfl, .tup rfl (fun j x u hx hu => ?_), hb⟩
  match j, hx, hu with
  | 0, hx, hu => simp at hx hu; subst hx hu; exact .c _
  | 1, hx, hu => simp at hx hu; subst hx hu; rw [← errA_eA]; exact err_rv _
  | j + 2, hx, hu => simp at hx
def M_awake : Option Bool := some true
theorem A_awake {r : Bool} (h : M_awake = some r) : ACall cx 11 [] (.c (.bool r)) := by
  obtain rfl := Option.some.inj h
  exact awake_A
end Go.Proofs.YticdfbhbbapbdaaDoor.Am
/- Models printed by my decompiler, and the proofs that the code computes them. -/
namespace Go.Proofs.YticdfbhbbapbdaaDoor.Am
open Go.RowKit
theorem ci {p K : Prop} (k : K) (h : p := by first | rfl | exact ⟨rfl, rfl⟩ | exact BW.fr FrV.h | (refine BW.fr ?_; assumption) | (refine ⟨rfl, ?_⟩; (simp [cGCertificate, cN, cF, cS, c_u8, take_len_map]; done)) | (refine RowK.same ?_ FrI.h; first | rfl | (simp [cGCertificate, cN, cF, cS, c_u8, take_len_map]; done)) | (refine row_part1 ?_; (repeat (first | exact BWL.nil | exact bwll_nil | exact bw_c | exact BW.sl | exact BW.nil | exact bwll_same rfl FrI.h | refine BWL.cons ?_ ?_ | refine bwll_cons ?_ ?_ | (refine bw_own3 rfl rfl rfl FrI.h ?_ ?_ ?_) | exact BW.fr FrV.h | exact BW.fr (by assumption) | refine bw_agg ?_ | refine bw_clo ?_ | refine bw_ptr rfl rfl rfl ?_ | (refine bw_own rfl rfl rfl ?_ FrI.h ?_ ?_) | assumption | omega | rfl | (refine bwll_same ?_ FrI.h; (simp [cGCertificate, cN, cF, cS, c_u8] <;> fail)) | (rw [List.map_append]; refine bwll_append ?_ ?_) | refine bwll_append ?_ ?_ | (simp [cGCertificate, cN, cF, cS, c_u8, take_len_map] <;> fail) | (rw [List.drop_zero, List.take_of_length_le] <;> first | rfl | (simp [cGCertificate, cN, cF, cS, c_u8] <;> fail)) | (simp; omega))); done) | ((repeat (first | exact BWL.nil | exact bwll_nil | exact bw_c | exact BW.sl | exact BW.nil | exact bwll_same rfl FrI.h | refine BWL.cons ?_ ?_ | refine bwll_cons ?_ ?_ | (refine bw_own3 rfl rfl rfl FrI.h ?_ ?_ ?_) | exact BW.fr FrV.h | exact BW.fr (by assumption) | refine bw_agg ?_ | refine bw_clo ?_ | refine bw_ptr rfl rfl rfl ?_ | (refine bw_own rfl rfl rfl ?_ FrI.h ?_ ?_) | assumption | omega | rfl | (refine bwll_same ?_ FrI.h; (simp [cGCertificate, cN, cF, cS, c_u8] <;> fail)) | (rw [List.map_append]; refine bwll_append ?_ ?_) | refine bwll_append ?_ ?_ | (simp [cGCertificate, cN, cF, cS, c_u8, take_len_map] <;> fail) | (rw [List.drop_zero, List.take_of_length_le] <;> first | rfl | (simp [cGCertificate, cN, cF, cS, c_u8] <;> fail)) | (simp; omega))); done) | (simp [cGCertificate, cN, cF, cS, c_u8, take_len_map]; done)) : p ∧ K := ⟨h, k⟩
theorem pr {p K : Prop} (k : K) (h : p := by first | assumption | exact Int.natCast_nonneg _ | exact Nat.le_refl _ | exact Nat.zero_le _ | omega | (simp; done) | (simp; omega)) : p ∧ K := ⟨h, k⟩
theorem pl {p K : Prop} (k : K) (h : p := by first | rfl | exact List.length_map _ | (simp; done) | (simp; omega)) : p ∧ K := ⟨h, k⟩
theorem pe {p K : Prop} (k : K) (h : p := by first | omega | (simp; omega) | (simp only [List.length_map, List.length_cons, List.length_nil, List.length_append]; omega)) : p ∧ K := ⟨h, k⟩
theorem dr {b : Bool} {p K : Prop} (k : K) (h : b = true → p := by intro h; first | (cases h; done) | exact ⟨by kernel_rfl, by kernel_rfl⟩) : (b = true → p) ∧ K := ⟨h, k⟩
theorem cl {C : Cx} {n : Nat} {o : Oper} {τ : Nat → AV} {η : Nat → Ent} {f : FuncId} {os : Array Operand} {ats : Array TypeId} {r : AV} {args : List AV} {K : Foot → Prop} (ho : o.op = .call ⟨.value (.func f), os, ats⟩) (hc : ACall C f args r) (k : K ⟨r, [], []⟩)
    (hd : InB n o.dst := by exact Nat.le_of_ble_eq_true rfl) (hargs : os.toList.map (evA τ) = args := by first | rfl | (simp [cGCertificate, cN, cF, cS, c_u8]; done)) (hfr : frs args := by repeat (first | exact trivial | exact fr1_eA _ | exact fr0_eA _ | exact fr1_fr (by assumption) | exact FrV.h | refine And.intro ?_ ?_)) (hr : fr1 r := by repeat (first | exact trivial | exact fr1_eA _ | exact fr0_eA _ | exact fr1_fr (by assumption) | exact FrV.h | refine And.intro ?_ ?_)) : ∃ f : Foot, LF C n o τ η f ∧ K f := ⟨_, lf_call ho hd hargs hc hfr hr, k⟩
theorem clc {C : Cx} {n : Nat} {o : Oper} {τ : Nat → AV} {η : Nat → Ent} {c : Operand} {os : Array Operand} {ats : Array TypeId} {r F : AV} {xs : List AV} {K : Foot → Prop} (ho : o.op = .call ⟨.value c, os, ats⟩) (hc : CCl C F xs r) (hfF : Fr F) (k : K ⟨r, [], []⟩)
    (hd : InB n o.dst := by exact Nat.le_of_ble_eq_true rfl) (hF : evA τ c = F := by rfl) (hargs : os.toList.map (evA τ) = xs := by first | rfl | (simp [cGCertificate, cN, cF, cS, c_u8]; done)) (hfr : frs xs := by repeat (first | exact trivial | exact fr1_eA _ | exact fr0_eA _ | exact fr1_fr (by assumption) | exact FrV.h | refine And.intro ?_ ?_)) (hr : fr1 r := by repeat (first | exact trivial | exact fr1_eA _ | exact fr0_eA _ | exact fr1_fr (by assumption) | exact FrV.h | refine And.intro ?_ ?_)) : ∃ f : Foot, LF C n o τ η f ∧ K f := ⟨_, lf_clo ho hd hF hargs hc hfF hfr hr, k⟩
theorem clb {C : Cx} {n : Nat} {o : Oper} {τ : Nat → AV} {η : Nat → Ent} {f : FuncId} {os : Array Operand} {ats : Array TypeId} {r : AV} {xs ys : List AV} {K : Foot → Prop} (bs : List Nat) (ho : o.op = .call ⟨.value (.func f), os, ats⟩) (hargs : os.toList.map (evA τ) = xs) (hc : ACall C f ys r) (k : K ⟨r, [], bs⟩)
    (hd : InB n o.dst := by exact Nat.le_of_ble_eq_true rfl) (hb : BWL η (dropB η bs) xs ys := by repeat (first | exact BWL.nil | exact bwll_nil | exact bw_c | exact BW.sl | exact BW.nil | exact bwll_same rfl FrI.h | refine BWL.cons ?_ ?_ | refine bwll_cons ?_ ?_ | (refine bw_own3 rfl rfl rfl FrI.h ?_ ?_ ?_) | exact BW.fr FrV.h | exact BW.fr (by assumption) | refine bw_agg ?_ | refine bw_clo ?_ | refine bw_ptr rfl rfl rfl ?_ | (refine bw_own rfl rfl rfl ?_ FrI.h ?_ ?_) | assumption | omega | rfl | (refine bwll_same ?_ FrI.h; (simp [cGCertificate, cN, cF, cS, c_u8] <;> fail)) | (rw [List.map_append]; refine bwll_append ?_ ?_) | refine bwll_append ?_ ?_ | (simp [cGCertificate, cN, cF, cS, c_u8, take_len_map] <;> fail) | (rw [List.drop_zero, List.take_of_length_le] <;> first | rfl | (simp [cGCertificate, cN, cF, cS, c_u8] <;> fail)) | (simp; omega))) (hr : scal r := by repeat (first | exact trivial | exact scal0_eA _ | exact scal_eA _ | refine And.intro ?_ ?_)) : ∃ f : Foot, LF C n o τ η f ∧ K f := ⟨_, lf_callB bs ho hd hargs hb hc hr, k⟩
theorem clf {C : Cx} {n : Nat} {o : Oper} {τ : Nat → AV} {η : Nat → Ent} {f : FuncId} {os : Array Operand} {ats : Array TypeId} {r : AV} {xs ys : List AV} {K : Foot → Prop} (us : List (Nat × Ent)) (ho : o.op = .call ⟨.value (.func f), os, ats⟩) (hargs : os.toList.map (evA τ) = xs) (hc : ACall C f ys r) (k : K ⟨r, us, []⟩)
    (hus : allUs η us := by repeat (first | exact trivial | refine And.intro rfl ?_)) (hd : InB n o.dst := by exact Nat.le_of_ble_eq_true rfl) (hb : BWL η (dropB η (us.map (·.1))) xs ys := by repeat (first | exact BWL.nil | exact bwll_nil | exact bw_c | exact BW.sl | exact BW.nil | exact bwll_same rfl FrI.h | refine BWL.cons ?_ ?_ | refine bwll_cons ?_ ?_ | (refine bw_own3 rfl rfl rfl FrI.h ?_ ?_ ?_) | exact BW.fr FrV.h | exact BW.fr (by assumption) | refine bw_agg ?_ | refine bw_clo ?_ | refine bw_ptr rfl rfl rfl ?_ | (refine bw_own rfl rfl rfl ?_ FrI.h ?_ ?_) | assumption | omega | rfl | (refine bwll_same ?_ FrI.h; (simp [cGCertificate, cN, cF, cS, c_u8] <;> fail)) | (rw [List.map_append]; refine bwll_append ?_ ?_) | refine bwll_append ?_ ?_ | (simp [cGCertificate, cN, cF, cS, c_u8, take_len_map] <;> fail) | (rw [List.drop_zero, List.take_of_length_le] <;> first | rfl | (simp [cGCertificate, cN, cF, cS, c_u8] <;> fail)) | (simp; omega))) (hr : fr1 r := by repeat (first | exact trivial | exact fr1_eA _ | exact fr0_eA _ | exact fr1_fr (by assumption) | exact FrV.h | refine And.intro ?_ ?_)) : ∃ f : Foot, LF C n o τ η f ∧ K f := ⟨_, lf_callF us (allUs_at hus) ho hd hargs hb hc hr, k⟩
def M_certificate_number_L1 (a0 : ByteArray) : Nat → Int → Int → Option (Int × Bool)
  | 0, _, _ => none
  | k10 + 1, v8, v9 =>
    sel (decide (v9 < (((bys a0).map c_u8).length : Int)))
     (ix (bys a0) v9 (fun y11 =>
       sel (decide (y11 < 48))
        (some (0, false))
        (sel (decide (y11 > 57))
          (some (0, false))
          (M_certificate_number_L1 a0 k10 (IntKind.i64.wrap ((IntKind.i64.wrap (10 * v8)) + (IntKind.i64.wrap (IntKind.u8.wrap (y11 - 48))))) (IntKind.i64.wrap (v9 + 1))))))
     (some (v8, true))
def M_certificate_number (a0 : ByteArray) : Option (Int × Bool) :=
  ob1 (sel (decide ((a0.size : Int) < 1))
    (some (.inr (0, false)))
    (sel (decide ((a0.size : Int) > 13))
      (some (.inr (0, false)))
      (sel (decide ((a0.size : Int) > 1))
        (grd (0 < (a0.size : Int)) (sel ((byt a0 0) == 48)
          (some (.inr (0, false)))
          (some (.inl ()))))
        (some (.inl ())))) : Option (Unit ⊕ (Int × Bool)))
   (osum
   (fun _ => grd (a0.size ≤ 140737488355328) (M_certificate_number_L1 a0 (((((bys a0).map c_u8).length : Int)).toNat + 1) 0 0))
   (fun (r1, r2) => some (r1, r2)))
set_option maxHeartbeats 16000000 in
set_option maxRecDepth 100000 in
theorem A_certificate_number (a0 : ByteArray) {r1 : Int} {r2 : Bool} (h : M_certificate_number a0 = some (r1, r2)) : ACall cx 68 [.c (.string a0)] (.tup [.c (.int .i64 r1), .c (.bool r2)]) := by
  refine acall_of Tryd.func68 rfl (by decide) rfl (Nat.le_of_ble_eq_true rfl) ?_
  intro _
  unfold M_certificate_number at h
  refine awp_seq ?_
  refine awp_region ?_
  intro _
  refine dr ?_
  obtain ⟨o1, h, hK2⟩ := ob1_ok h
  refine awp_cut (α := Unit) (fun _ => mkS 46 [(0, .c (.string a0))] []) (fun v => o1 = (.inl v)) ?_ ?_
  · refine awp_seq ?_
    refine awp_region ?_
    intro _
    refine spf h (fun c3 h => ?_) (fun c3 h => ?_)
    · intro _
      refine spf h (fun c4 h => ?_) (fun c4 h => ?_)
      · intro _
        refine spl h (fun c5 h => ?_) (fun c5 h => ?_)
        · intro _
          obtain ⟨q6, h⟩ := grd_ok h
          refine pr ?_
          refine pr ?_
          refine dr ?_
          refine awp_cond ?_
          intro _
          refine spl h (fun c7 h => ?_) (fun c7 h => ?_)
          · refine awp_seq ?_
            refine awp_region ?_
            intro _
            refine dr ?_
            refine awp_ret ?_
            have j8 := Option.some.inj h
            subst j8
            replace h := (osum_r hK2)
            intro _
            obtain ⟨rfl, rfl⟩ := inj2 h
            repeat (first | exact True.intro | refine ci ?_)
          · refine awp_skip ?_
            refine ⟨(), (Option.some.inj h).symm, ?_⟩
            repeat (first | exact True.intro | refine ci ?_)
        · intro _
          refine dr ?_
          refine awp_cond ?_
          intro _
          refine litF ?_
          refine awp_skip ?_
          refine ⟨(), (Option.some.inj h).symm, ?_⟩
          repeat (first | exact True.intro | refine ci ?_)
      · intro _
        refine dr ?_
        refine awp_cond ?_
        intro _
        refine litT ?_
        refine awp_seq ?_
        refine awp_region ?_
        intro _
        refine dr ?_
        refine awp_ret ?_
        have j9 := Option.some.inj h
        subst j9
        replace h := (osum_r hK2)
        intro _
        obtain ⟨rfl, rfl⟩ := inj2 h
        repeat (first | exact True.intro | refine ci ?_)
    · intro _
      refine dr ?_
      refine awp_cond ?_
      intro _
      refine litT ?_
      refine awp_seq ?_
      refine awp_region ?_
      intro _
      refine dr ?_
      refine awp_ret ?_
      have j10 := Option.some.inj h
      subst j10
      replace h := (osum_r hK2)
      intro _
      obtain ⟨rfl, rfl⟩ := inj2 h
      repeat (first | exact True.intro | refine ci ?_)
  · rintro _ ho
    have ho := ho.symm
    subst ho
    intro _
    replace h := (osum_l hK2)
    refine awp_seq ?_
    refine awp_region ?_
    intro _
    refine dr ?_
    refine awp_seq ?_
    refine awp_seq ?_
    refine awp_region ?_
    intro _
    obtain ⟨q11, h⟩ := grd_ok h
    refine ⟨_, lf_bys rfl (Nat.le_of_ble_eq_true rfl) rfl (tyTab_ok 9 _ rfl) rfl (tyTab_ok 59 _ rfl) rfl Tryd.underlying5 (by first | assumption | omega), ?_⟩
    intro _
    refine dr ?_
    refine awp_block ?_
    refine awp_loop (α := Nat × Int × Int) (fun x => mkS 46 [(4, .c (.int .i64 x.2.1)), (26, .sl 1 ((bys a0).map c_u8)), (27, .c (.int .i64 (((bys a0).map c_u8).length : Int))), (28, .c (.int .i64 x.2.2))] []) (fun x => M_certificate_number_L1 a0 x.1 x.2.1 x.2.2 = some (r1, r2)) (fun x => x.1) (((((bys a0).map c_u8).length : Int)).toNat + 1, 0, 0) h ?_ ?_
    · repeat (first | exact True.intro | refine ci ?_)
    · intro x12 h
      intro _
      obtain ⟨k10, m13, h⟩ := succ_of (f := fun n => M_certificate_number_L1 a0 n x12.2.1 x12.2.2) rfl h
      replace h : M_certificate_number_L1 a0 (k10 + 1) x12.2.1 x12.2.2 = some (r1, r2) := h
      rw [M_certificate_number_L1] at h
      refine awp_seq ?_
      refine awp_region ?_
      intro _
      refine dr ?_
      refine awp_seq ?_
      refine awp_cond ?_
      intro _
      refine spl h (fun c14 h => ?_) (fun c14 h => ?_)
      · refine awp_skip ?_
        refine awp_seq ?_
        refine awp_block ?_
        refine awp_seq ?_
        refine awp_region ?_
        intro _
        obtain ⟨y11, w15, q16, h⟩ := ix_ok h
        refine Exists.intro (c_u8 y11) (And.intro (map_at' w15) ?_)
        intro _
        refine pr ?_
        refine dr ?_
        refine awp_seq ?_
        refine awp_seq ?_
        refine awp_region ?_
        intro _
        refine spf h (fun c17 h => ?_) (fun c17 h => ?_)
        · intro _
          refine dr ?_
          refine awp_cond ?_
          intro _
          refine spl h (fun c18 h => ?_) (fun c18 h => ?_)
          · refine awp_seq ?_
            refine awp_region ?_
            intro _
            refine dr ?_
            refine awp_ret ?_
            intro _
            obtain ⟨rfl, rfl⟩ := inj2 h
            repeat (first | exact True.intro | refine ci ?_)
          · refine awp_skip ?_
            refine awp_region ?_
            intro _
            refine dr ?_
            refine awp_region ?_
            intro _
            refine dr ?_
            refine ⟨(k10, (IntKind.i64.wrap ((IntKind.i64.wrap (10 * x12.2.1)) + (IntKind.i64.wrap (IntKind.u8.wrap (y11 - 48))))), (IntKind.i64.wrap (x12.2.2 + 1))), h, lt_of_succ m13, ?_⟩
            repeat (first | exact True.intro | refine ci ?_)
        · intro _
          refine dr ?_
          refine awp_cond ?_
          intro _
          refine litT ?_
          refine awp_seq ?_
          refine awp_region ?_
          intro _
          refine dr ?_
          refine awp_ret ?_
          intro _
          obtain ⟨rfl, rfl⟩ := inj2 h
          repeat (first | exact True.intro | refine ci ?_)
      · refine awp_exit ?_
        refine awp_seq ?_
        refine awp_region ?_
        intro _
        refine dr ?_
        refine awp_ret ?_
        intro _
        obtain ⟨rfl, rfl⟩ := inj2 h
        repeat (first | exact True.intro | refine ci ?_)
def M_certificate_head (a0 : ByteArray) : Option (Int × Bool) :=
  sel (a0.toList == (⟨#[117, 110, 115, 111, 108, 118, 97, 98, 108, 101]⟩ : ByteArray).toList)
   (some ((-1), true))
   (ob2 (M_strings_CutPrefix a0 (⟨#[108, 111, 119, 101, 114, 32]⟩ : ByteArray)) (fun z1 z2 =>
     sel (!z2)
      (some (0, false))
      (ob2 (M_certificate_number z1) (fun z3 z4 =>
        some (z3, z4)))))
set_option maxHeartbeats 16000000 in
set_option maxRecDepth 100000 in
theorem A_certificate_head (a0 : ByteArray) {r1 : Int} {r2 : Bool} (h : M_certificate_head a0 = some (r1, r2)) : ACall cx 54 [.c (.string a0)] (.tup [.c (.int .i64 r1), .c (.bool r2)]) := by
  refine acall_of Tryd.func54 rfl (by decide) rfl (Nat.le_of_ble_eq_true rfl) ?_
  intro _
  unfold M_certificate_head at h
  refine awp_seq ?_
  refine awp_region ?_
  intro _
  refine dr ?_
  refine awp_seq ?_
  refine awp_seq ?_
  refine awp_region ?_
  intro _
  refine dr ?_
  refine awp_cond ?_
  intro _
  refine spl h (fun c1 h => ?_) (fun c1 h => ?_)
  · refine awp_seq ?_
    refine awp_region ?_
    intro _
    refine dr ?_
    refine awp_ret ?_
    intro _
    obtain ⟨rfl, rfl⟩ := inj2 h
    repeat (first | exact True.intro | refine ci ?_)
  · refine awp_skip ?_
    refine awp_seq ?_
    refine awp_region ?_
    intro _
    obtain ⟨z1, z2, u2, h⟩ := ob2_ok h
    refine cl rfl (A_strings_CutPrefix a0 (⟨#[108, 111, 119, 101, 114, 32]⟩ : ByteArray) u2) ?_
    intro _
    refine dr ?_
    refine awp_seq ?_
    refine awp_seq ?_
    refine awp_region ?_
    intro _
    refine dr ?_
    refine awp_cond ?_
    intro _
    refine spl h (fun c3 h => ?_) (fun c3 h => ?_)
    · refine awp_seq ?_
      refine awp_region ?_
      intro _
      refine dr ?_
      refine awp_ret ?_
      intro _
      obtain ⟨rfl, rfl⟩ := inj2 h
      repeat (first | exact True.intro | refine ci ?_)
    · refine awp_skip ?_
      refine awp_seq ?_
      refine awp_region ?_
      intro _
      obtain ⟨z3, z4, u4, h⟩ := ob2_ok h
      refine cl rfl (A_certificate_number z1 u4) ?_
      intro _
      refine dr ?_
      refine awp_ret ?_
      intro _
      obtain ⟨rfl, rfl⟩ := inj2 h
      repeat (first | exact True.intro | refine ci ?_)
def M_certificate_nogood_L1 (z6 : Int) (z11 : List ByteArray) : Nat → Int → (List Fact) → Option (Nogood × Bool)
  | 0, _, _ => none
  | k32 + 1, v30, v31 =>
    sel (decide (v30 < ((z11.map cS).length : Int)))
     (ix z11 v30 (fun y33 =>
       ob3 (M_strings_Cut y33 (⟨#[61]⟩ : ByteArray)) (fun z34 z35 z36 =>
        ob2 (M_certificate_number z34) (fun z37 z38 =>
         ob2 (M_certificate_number z35) (fun z39 z40 =>
          sel (!z36)
           (some (([], 0), false))
           (sel (!z38)
             (some (([], 0), false))
             (sel (!z40)
               (some (([], 0), false))
               (grd ((v31.length + 1) * 16 ≤ 140737488355328) (M_certificate_nogood_L1 z6 z11 k32 (IntKind.i64.wrap (v30 + 1)) (v31 ++ [(z37, z39)]))))))))))
     (grd (v31.length ≤ 140737488355328) (some ((v31, z6), true)))
def M_certificate_nogood (a0 : ByteArray) : Option (Nogood × Bool) :=
  ob2 (M_strings_CutPrefix a0 (⟨#[110, 111, 103, 111, 111, 100, 32]⟩ : ByteArray)) (fun z1 z2 =>
   ob3 (M_strings_Cut z1 (⟨#[58]⟩ : ByteArray)) (fun z3 z4 z5 =>
    ob2 (M_certificate_number z3) (fun z6 z7 =>
     ob1 (sel (!z2)
       (some (.inr (([], 0), false)))
       (sel (!z5)
         (some (.inr (([], 0), false)))
         (sel (!z7)
           (some (.inr (([], 0), false)))
           (some (.inl ())))) : Option (Unit ⊕ (Nogood × Bool)))
      (osum
      (fun _ => sel (z4.toList == (⟨#[]⟩ : ByteArray).toList)
         (some (([], z6), true))
         (grd (0 < (z4.size : Int)) (sel ((byt z4 0) != 32)
           (some (([], 0), false))
           (ob1 (M_strings_Split (z4.extract 1 z4.size) (⟨#[32]⟩ : ByteArray)) (fun z11 =>
             grd (1 ≤ z4.size) (M_certificate_nogood_L1 z6 z11 ((((z11.map cS).length : Int)).toNat + 1) 0 []))))))
      (fun (r8, r9) => some (r8, r9))))))
set_option maxHeartbeats 16000000 in
set_option maxRecDepth 100000 in
theorem A_certificate_nogood (a0 : ByteArray) {r1 : Nogood} {r2 : Bool} (h : M_certificate_nogood a0 = some (r1, r2)) : ACall cx 55 [.c (.string a0)] (.tup [.agg [.sl 2 (r1.1.map cF), .c (.int .i64 r1.2)], .c (.bool r2)]) := by
  refine acall_of Tryd.func55 rfl (by decide) rfl (Nat.le_of_ble_eq_true rfl) ?_
  intro _
  unfold M_certificate_nogood at h
  refine awp_seq ?_
  refine awp_region ?_
  intro _
  refine dr ?_
  refine awp_seq ?_
  refine awp_region ?_
  intro _
  obtain ⟨z1, z2, u1, h⟩ := ob2_ok h
  refine cl rfl (A_strings_CutPrefix a0 (⟨#[110, 111, 103, 111, 111, 100, 32]⟩ : ByteArray) u1) ?_
  intro _
  refine dr ?_
  refine awp_seq ?_
  refine awp_region ?_
  intro _
  obtain ⟨z3, z4, z5, u2, h⟩ := ob3_ok h
  refine cl rfl (A_strings_Cut z1 (⟨#[58]⟩ : ByteArray) u2) ?_
  intro _
  refine dr ?_
  refine awp_seq ?_
  refine awp_region ?_
  intro _
  obtain ⟨z6, z7, u3, h⟩ := ob2_ok h
  refine cl rfl (A_certificate_number z3 u3) ?_
  intro _
  refine dr ?_
  obtain ⟨o4, h, hK5⟩ := ob1_ok h
  refine awp_cut (α := Unit) (fun _ => mkS 102 [(2, .ptr 2 0 0 0), (7, .c (.string z4)), (9, .c (.int .i64 z6))] [(2, ⟨45, 2, true, [[.c (.slice none 0 0), .c (.int .i64 0)]]⟩)]) (fun v => o4 = (.inl v)) ?_ ?_
  · refine awp_seq ?_
    refine awp_region ?_
    intro _
    refine spf h (fun c6 h => ?_) (fun c6 h => ?_)
    · intro _
      refine spf h (fun c7 h => ?_) (fun c7 h => ?_)
      · intro _
        refine dr ?_
        refine awp_cond ?_
        intro _
        refine spl h (fun c8 h => ?_) (fun c8 h => ?_)
        · refine awp_seq ?_
          refine awp_region ?_
          intro _
          refine dr ?_
          refine awp_ret ?_
          have j9 := Option.some.inj h
          subst j9
          replace h := (osum_r hK5)
          intro _
          obtain ⟨rfl, rfl⟩ := inj2 h
          repeat (first | exact True.intro | refine ci ?_)
        · refine awp_skip ?_
          refine ⟨(), (Option.some.inj h).symm, ?_⟩
          repeat (first | exact True.intro | refine ci ?_)
      · intro _
        refine dr ?_
        refine awp_cond ?_
        intro _
        refine litT ?_
        refine awp_seq ?_
        refine awp_region ?_
        intro _
        refine dr ?_
        refine awp_ret ?_
        have j10 := Option.some.inj h
        subst j10
        replace h := (osum_r hK5)
        intro _
        obtain ⟨rfl, rfl⟩ := inj2 h
        repeat (first | exact True.intro | refine ci ?_)
    · intro _
      refine dr ?_
      refine awp_cond ?_
      intro _
      refine litT ?_
      refine awp_seq ?_
      refine awp_region ?_
      intro _
      refine dr ?_
      refine awp_ret ?_
      have j11 := Option.some.inj h
      subst j11
      replace h := (osum_r hK5)
      intro _
      obtain ⟨rfl, rfl⟩ := inj2 h
      repeat (first | exact True.intro | refine ci ?_)
  · rintro _ ho
    have ho := ho.symm
    subst ho
    intro _
    replace h := (osum_l hK5)
    refine awp_seq ?_
    refine awp_region ?_
    intro _
    refine dr ?_
    refine awp_seq ?_
    refine awp_seq ?_
    refine awp_region ?_
    intro _
    refine dr ?_
    refine awp_cond ?_
    intro _
    refine spl h (fun c12 h => ?_) (fun c12 h => ?_)
    · refine awp_seq ?_
      refine awp_region ?_
      intro _
      refine dr ?_
      refine awp_ret ?_
      intro _
      obtain ⟨rfl, rfl⟩ := inj2 h
      repeat (first | exact True.intro | refine ci ?_)
    · refine awp_skip ?_
      refine awp_seq ?_
      refine awp_seq ?_
      refine awp_region ?_
      intro _
      obtain ⟨q13, h⟩ := grd_ok h
      refine pr ?_
      refine pr ?_
      refine dr ?_
      refine awp_cond ?_
      intro _
      refine spl h (fun c14 h => ?_) (fun c14 h => ?_)
      · refine awp_seq ?_
        refine awp_region ?_
        intro _
        refine dr ?_
        refine awp_ret ?_
        intro _
        obtain ⟨rfl, rfl⟩ := inj2 h
        repeat (first | exact True.intro | refine ci ?_)
      · refine awp_skip ?_
        refine awp_seq ?_
        refine awp_seq ?_
        refine awp_region ?_
        intro _
        obtain ⟨z11, u15, h⟩ := ob1_ok h
        refine cl rfl (A_strings_Split (z4.extract 1 z4.size) (⟨#[32]⟩ : ByteArray) u15) ?_
        intro _
        obtain ⟨q16, h⟩ := grd_ok h
        refine pr ?_
        refine pr ?_
        refine pr ?_
        refine dr ?_
        refine awp_block ?_
        refine awp_loop (α := Nat × Int × (List Fact)) (fun x => mkS 102 [(2, .ptr 2 0 0 0), (11, .ptr 11 0 0 0), (59, .sl 1 (z11.map cS)), (60, .c (.int .i64 ((z11.map cS).length : Int))), (61, .c (.int .i64 x.2.1))] [(2, ⟨45, 2, true, [[.c (.slice none 0 0), .c (.int .i64 0)]]⟩), (11, ⟨45, 2, true, [[.own 98 0 0 x.2.2.length, .c (.int .i64 z6)]]⟩), (98, ⟨54, 2, false, x.2.2.map cF⟩)]) (fun x => M_certificate_nogood_L1 z6 z11 x.1 x.2.1 x.2.2 = some (r1, r2)) (fun x => x.1) ((((z11.map cS).length : Int)).toNat + 1, 0, []) h ?_ ?_
        · repeat (first | exact True.intro | refine ci ?_)
        · intro x17 h
          intro _
          obtain ⟨k32, m18, h⟩ := succ_of (f := fun n => M_certificate_nogood_L1 z6 z11 n x17.2.1 x17.2.2) rfl h
          replace h : M_certificate_nogood_L1 z6 z11 (k32 + 1) x17.2.1 x17.2.2 = some (r1, r2) := h
          rw [M_certificate_nogood_L1] at h
          refine awp_seq ?_
          refine awp_region ?_
          intro _
          refine dr ?_
          refine awp_seq ?_
          refine awp_cond ?_
          intro _
          refine spl h (fun c19 h => ?_) (fun c19 h => ?_)
          · refine awp_skip ?_
            refine awp_seq ?_
            refine awp_block ?_
            refine awp_seq ?_
            refine awp_region ?_
            intro _
            obtain ⟨y33, w20, q21, h⟩ := ix_ok h
            refine Exists.intro (cS y33) (And.intro (map_at' w20) ?_)
            intro _
            refine pr ?_
            refine dr ?_
            refine awp_seq ?_
            refine awp_region ?_
            intro _
            obtain ⟨z34, z35, z36, u22, h⟩ := ob3_ok h
            refine cl rfl (A_strings_Cut y33 (⟨#[61]⟩ : ByteArray) u22) ?_
            intro _
            refine dr ?_
            refine awp_seq ?_
            refine awp_region ?_
            intro _
            obtain ⟨z37, z38, u23, h⟩ := ob2_ok h
            refine cl rfl (A_certificate_number z34 u23) ?_
            intro _
            refine dr ?_
            refine awp_seq ?_
            refine awp_region ?_
            intro _
            obtain ⟨z39, z40, u24, h⟩ := ob2_ok h
            refine cl rfl (A_certificate_number z35 u24) ?_
            intro _
            refine dr ?_
            refine awp_seq ?_
            refine awp_seq ?_
            refine awp_region ?_
            intro _
            refine spf h (fun c25 h => ?_) (fun c25 h => ?_)
            · intro _
              refine spf h (fun c26 h => ?_) (fun c26 h => ?_)
              · intro _
                refine dr ?_
                refine awp_cond ?_
                intro _
                refine spl h (fun c27 h => ?_) (fun c27 h => ?_)
                · refine awp_seq ?_
                  refine awp_region ?_
                  intro _
                  refine dr ?_
                  refine awp_ret ?_
                  intro _
                  obtain ⟨rfl, rfl⟩ := inj2 h
                  repeat (first | exact True.intro | refine ci ?_)
                · refine awp_skip ?_
                  refine awp_region ?_
                  intro _
                  obtain ⟨q28, h⟩ := grd_ok h
                  refine pl ?_
                  refine pl ?_
                  refine And.intro (by first | assumption | (show (x17.2.2.length + 1) * 16 ≤ 140737488355328; assumption) | omega | (simp; omega)) ?_
                  refine pe ?_
                  refine dr ?_
                  refine awp_region ?_
                  intro _
                  refine dr ?_
                  refine ⟨(k32, (IntKind.i64.wrap (x17.2.1 + 1)), (x17.2.2 ++ [(z37, z39)])), h, lt_of_succ m18, ?_⟩
                  repeat (first | exact True.intro | refine ci ?_)
              · intro _
                refine dr ?_
                refine awp_cond ?_
                intro _
                refine litT ?_
                refine awp_seq ?_
                refine awp_region ?_
                intro _
                refine dr ?_
                refine awp_ret ?_
                intro _
                obtain ⟨rfl, rfl⟩ := inj2 h
                repeat (first | exact True.intro | refine ci ?_)
            · intro _
              refine dr ?_
              refine awp_cond ?_
              intro _
              refine litT ?_
              refine awp_seq ?_
              refine awp_region ?_
              intro _
              refine dr ?_
              refine awp_ret ?_
              intro _
              obtain ⟨rfl, rfl⟩ := inj2 h
              repeat (first | exact True.intro | refine ci ?_)
          · refine awp_exit ?_
            refine awp_seq ?_
            refine awp_region ?_
            intro _
            refine dr ?_
            refine awp_ret ?_
            obtain ⟨q29, h⟩ := grd_ok h
            intro _
            obtain ⟨rfl, rfl⟩ := inj2 h
            repeat (first | exact True.intro | refine ci ?_)
def M_certificate_Parse_L1 (z1 : List ByteArray) : Nat → Int → Int → (List Nogood) → Option ((Int × (List Nogood)) ⊕ (GCertificate × Int × Er))
  | 0, _, _, _ => none
  | k113 + 1, v110, v111, v112 =>
    sel (decide (v110 < ((z1.map cS).length : Int)))
     (ix z1 v110 (fun y114 =>
       ob1 (sel (!(decide (v110 < (IntKind.i64.wrap (((z1.map cS).length : Int) - 1)))))
         (sel (y114.toList == (⟨#[]⟩ : ByteArray).toList)
           (sel (decide (v110 > 0))
             (some (.inr ()))
             (some (.inl ())))
           (some (.inl ())))
         (some (.inl ())) : Option (Unit ⊕ Unit))
        (osum
        (fun _ => ob1 (sel (v110 == 0)
            (ob2 (M_certificate_head y114) (fun z124 z125 =>
              some (z125, z124, v112)))
            (ob2 (M_certificate_nogood y114) (fun z126 z127 =>
              grd ((v112.length + 1) * 32 ≤ 140737488355328) (some (z127, v111, (v112 ++ [z126]))))) : Option (Bool × Int × (List Nogood)))
           (fun (v120, v121, v122) => sel (!v120)
              (some (.inr ({ Bound := 0, Nogoods := [] : GCertificate }, (IntKind.i64.wrap (v110 + 1)), (Er.no 2))))
              (sel (!(decide (v110 < (IntKind.i64.wrap (((z1.map cS).length : Int) - 1)))))
                (some (.inr ({ Bound := 0, Nogoods := [] : GCertificate }, (IntKind.i64.wrap (v110 + 1)), (Er.no 2))))
                (M_certificate_Parse_L1 z1 k113 (IntKind.i64.wrap (v110 + 1)) v121 v122))))
        (fun _ => some (.inl (v111, v112))))))
     (some (.inl (v111, v112)))
def M_certificate_Parse (a0 : ByteArray) : Option (GCertificate × Int × Er) :=
  sel (decide ((a0.size : Int) > 65536))
   (some ({ Bound := 0, Nogoods := [] : GCertificate }, 0, (Er.no 5)))
   (ob1 (M_strings_Split a0 (⟨#[10]⟩ : ByteArray)) (fun z1 =>
     ob1 (M_certificate_Parse_L1 z1 ((((z1.map cS).length : Int)).toNat + 1) 0 0 [] : Option ((Int × (List Nogood)) ⊕ (GCertificate × Int × Er)))
      (osum
      (fun (v62, v63) => grd (v63.length ≤ 140737488355328) (ob1 (M_certificate_Check ({ Bound := v62, Nogoods := v63 : GCertificate })) (fun z128 =>
         erM z128
          (some ({ Bound := v62, Nogoods := v63 : GCertificate }, 0, Er.nil))
          (fun e129 => some ({ Bound := 0, Nogoods := [] : GCertificate }, 0, (Er.no e129))))))
      (fun (r64, r65, r66) => some (r64, r65, r66)))))
set_option maxHeartbeats 16000000 in
set_option maxRecDepth 100000 in
theorem A_certificate_Parse (a0 : ByteArray) {r1 : GCertificate} {r2 : Int} {r3 : Er} (h : M_certificate_Parse a0 = some (r1, r2, r3)) : ACall cx 28 [.c (.string a0)] (.tup [.agg [.c (.int .i64 r1.Bound), .sl 2 (r1.Nogoods.map cN)], .c (.int .i64 r2), eA r3]) := by
  refine acall_of Tryd.func28 rfl (by decide) rfl (Nat.le_of_ble_eq_true rfl) ?_
  intro _
  unfold M_certificate_Parse at h
  refine awp_seq ?_
  refine awp_region ?_
  intro _
  refine dr ?_
  refine awp_seq ?_
  refine awp_seq ?_
  refine awp_region ?_
  intro _
  refine dr ?_
  refine awp_cond ?_
  intro _
  refine spl h (fun c1 h => ?_) (fun c1 h => ?_)
  · refine awp_seq ?_
    refine awp_region ?_
    intro _
    refine dr ?_
    refine awp_ret ?_
    intro _
    obtain ⟨rfl, rfl, rfl⟩ := inj3 h
    repeat (first | exact True.intro | refine ci ?_)
  · refine awp_skip ?_
    refine awp_seq ?_
    refine awp_region ?_
    intro _
    refine dr ?_
    refine awp_seq ?_
    refine awp_region ?_
    intro _
    obtain ⟨z1, u2, h⟩ := ob1_ok h
    refine cl rfl (A_strings_Split a0 (⟨#[10]⟩ : ByteArray) u2) ?_
    intro _
    refine dr ?_
    obtain ⟨o3, h, hK4⟩ := ob1_ok h
    refine awp_cut (α := Int × (List Nogood)) (fun (v62, v63) => mkS 79 [(2, .ptr 2 0 0 0), (5, .ptr 5 0 0 0)] [(2, ⟨25, 2, true, [[.c (.int .i64 0), .c (.slice none 0 0)]]⟩), (5, ⟨25, 2, true, [[.c (.int .i64 v62), .own 59 0 0 v63.length]]⟩), (59, ⟨45, 2, false, v63.map cN⟩)]) (fun v => o3 = (.inl v)) ?_ ?_
    · refine awp_seq ?_
      refine awp_region ?_
      intro _
      refine dr ?_
      refine awp_block ?_
      refine awp_loop (α := Nat × Int × Int × (List Nogood)) (fun x => mkS 79 [(2, .ptr 2 0 0 0), (5, .ptr 5 0 0 0), (6, .sl 1 (z1.map cS)), (20, .sl 1 (z1.map cS)), (21, .c (.int .i64 ((z1.map cS).length : Int))), (22, .c (.int .i64 x.2.1))] [(2, ⟨25, 2, true, [[.c (.int .i64 0), .c (.slice none 0 0)]]⟩), (5, ⟨25, 2, true, [[.c (.int .i64 x.2.2.1), .own 59 0 0 x.2.2.2.length]]⟩), (59, ⟨45, 2, false, x.2.2.2.map cN⟩)]) (fun x => M_certificate_Parse_L1 z1 x.1 x.2.1 x.2.2.1 x.2.2.2 = some o3) (fun x => x.1) ((((z1.map cS).length : Int)).toNat + 1, 0, 0, []) h ?_ ?_
      · repeat (first | exact True.intro | refine ci ?_)
      · intro x5 h
        intro _
        obtain ⟨k113, m6, h⟩ := succ_of (f := fun n => M_certificate_Parse_L1 z1 n x5.2.1 x5.2.2.1 x5.2.2.2) rfl h
        replace h : M_certificate_Parse_L1 z1 (k113 + 1) x5.2.1 x5.2.2.1 x5.2.2.2 = some o3 := h
        rw [M_certificate_Parse_L1] at h
        refine awp_seq ?_
        refine awp_region ?_
        intro _
        refine dr ?_
        refine awp_seq ?_
        refine awp_cond ?_
        intro _
        refine spl h (fun c7 h => ?_) (fun c7 h => ?_)
        · refine awp_skip ?_
          refine awp_seq ?_
          refine awp_block ?_
          refine awp_seq ?_
          refine awp_region ?_
          intro _
          obtain ⟨y114, w8, q9, h⟩ := ix_ok h
          refine Exists.intro (cS y114) (And.intro (map_at' w8) ?_)
          intro _
          refine pr ?_
          refine dr ?_
          refine awp_seq ?_
          refine awp_region ?_
          intro _
          refine dr ?_
          obtain ⟨o10, h, hK11⟩ := ob1_ok h
          refine awp_cut (α := Unit) (fun _ => mkS 79 [(2, .ptr 2 0 0 0), (5, .ptr 5 0 0 0), (6, .sl 1 (z1.map cS)), (7, .c (.int .i64 x5.2.1)), (8, .c (.string y114)), (9, .c (.bool (decide (x5.2.1 < (IntKind.i64.wrap (((z1.map cS).length : Int) - 1)))))), (20, .sl 1 (z1.map cS)), (21, .c (.int .i64 ((z1.map cS).length : Int))), (22, .c (.int .i64 x5.2.1))] [(2, ⟨25, 2, true, [[.c (.int .i64 0), .c (.slice none 0 0)]]⟩), (5, ⟨25, 2, true, [[.c (.int .i64 x5.2.2.1), .own 59 0 0 x5.2.2.2.length]]⟩), (59, ⟨45, 2, false, x5.2.2.2.map cN⟩)]) (fun v => o10 = (.inl v)) ?_ ?_
          · refine awp_seq ?_
            refine awp_region ?_
            intro _
            refine spl h (fun c12 h => ?_) (fun c12 h => ?_)
            · intro _
              refine spl h (fun c13 h => ?_) (fun c13 h => ?_)
              · intro _
                refine dr ?_
                refine awp_cond ?_
                intro _
                refine spl h (fun c14 h => ?_) (fun c14 h => ?_)
                · refine awp_exit ?_
                  have j15 := Option.some.inj h
                  subst j15
                  replace h := (osum_r hK11)
                  refine ⟨(x5.2.2.1, x5.2.2.2), (Option.some.inj h).symm, ?_⟩
                  repeat (first | exact True.intro | refine ci ?_)
                · refine awp_skip ?_
                  refine ⟨(), (Option.some.inj h).symm, ?_⟩
                  repeat (first | exact True.intro | refine ci ?_)
              · intro _
                refine dr ?_
                refine awp_cond ?_
                intro _
                refine litF ?_
                refine awp_skip ?_
                refine ⟨(), (Option.some.inj h).symm, ?_⟩
                repeat (first | exact True.intro | refine ci ?_)
            · intro _
              refine dr ?_
              refine awp_cond ?_
              intro _
              refine litF ?_
              refine awp_skip ?_
              refine ⟨(), (Option.some.inj h).symm, ?_⟩
              repeat (first | exact True.intro | refine ci ?_)
          · rintro _ ho
            have ho := ho.symm
            subst ho
            intro _
            replace h := (osum_l hK11)
            obtain ⟨o16, h, hK17⟩ := ob1_ok h
            refine awp_cut (α := Bool × Int × (List Nogood)) (fun (v120, v121, v122) => mkS 79 [(2, .ptr 2 0 0 0), (5, .ptr 5 0 0 0), (6, .sl 1 (z1.map cS)), (7, .c (.int .i64 x5.2.1)), (9, .c (.bool (decide (x5.2.1 < (IntKind.i64.wrap (((z1.map cS).length : Int) - 1)))))), (10, .c (.bool v120)), (20, .sl 1 (z1.map cS)), (21, .c (.int .i64 ((z1.map cS).length : Int))), (22, .c (.int .i64 x5.2.1))] [(2, ⟨25, 2, true, [[.c (.int .i64 0), .c (.slice none 0 0)]]⟩), (5, ⟨25, 2, true, [[.c (.int .i64 v121), .own 59 0 0 v122.length]]⟩), (59, ⟨45, 2, false, v122.map cN⟩)]) (fun v => o16 = v) ?_ ?_
            · refine awp_seq ?_
              refine awp_region ?_
              intro _
              refine dr ?_
              refine awp_cond ?_
              intro _
              refine spl h (fun c18 h => ?_) (fun c18 h => ?_)
              · refine awp_region ?_
                intro _
                obtain ⟨z124, z125, u19, h⟩ := ob2_ok h
                refine cl rfl (A_certificate_head y114 u19) ?_
                intro _
                refine dr ?_
                refine ⟨(z125, z124, x5.2.2.2), (Option.some.inj h).symm, ?_⟩
                repeat (first | exact True.intro | refine ci ?_)
              · refine awp_seq ?_
                refine awp_region ?_
                intro _
                refine dr ?_
                refine awp_seq ?_
                refine awp_region ?_
                intro _
                obtain ⟨z126, z127, u20, h⟩ := ob2_ok h
                refine cl rfl (A_certificate_nogood y114 u20) ?_
                intro _
                refine dr ?_
                refine awp_region ?_
                intro _
                obtain ⟨q21, h⟩ := grd_ok h
                refine pl ?_
                refine pl ?_
                refine And.intro (by first | assumption | (show (x5.2.2.2.length + 1) * 32 ≤ 140737488355328; assumption) | omega | (simp; omega)) ?_
                refine pe ?_
                refine dr ?_
                refine ⟨(z127, x5.2.2.1, (x5.2.2.2 ++ [z126])), (Option.some.inj h).symm, ?_⟩
                repeat (first | exact True.intro | refine ci ?_)
            · rintro ⟨v120, v121, v122⟩ ho
              have ho := ho.symm
              subst ho
              intro _
              replace h := hK17
              refine awp_seq ?_
              refine awp_region ?_
              intro _
              refine spf h (fun c22 h => ?_) (fun c22 h => ?_)
              · intro _
                refine dr ?_
                refine awp_cond ?_
                intro _
                refine spl h (fun c23 h => ?_) (fun c23 h => ?_)
                · refine awp_seq ?_
                  refine awp_region ?_
                  intro _
                  refine dr ?_
                  refine awp_ret ?_
                  have j24 := Option.some.inj h
                  subst j24
                  replace h := (osum_r hK4)
                  intro _
                  obtain ⟨rfl, rfl, rfl⟩ := inj3 h
                  repeat (first | exact True.intro | refine ci ?_)
                · refine awp_skip ?_
                  refine awp_region ?_
                  intro _
                  refine dr ?_
                  refine ⟨(k113, (IntKind.i64.wrap (x5.2.1 + 1)), v121, v122), h, lt_of_succ m6, ?_⟩
                  repeat (first | exact True.intro | refine ci ?_)
              · intro _
                refine dr ?_
                refine awp_cond ?_
                intro _
                refine litT ?_
                refine awp_seq ?_
                refine awp_region ?_
                intro _
                refine dr ?_
                refine awp_ret ?_
                have j25 := Option.some.inj h
                subst j25
                replace h := (osum_r hK4)
                intro _
                obtain ⟨rfl, rfl, rfl⟩ := inj3 h
                repeat (first | exact True.intro | refine ci ?_)
        · refine awp_exit ?_
          refine ⟨(x5.2.2.1, x5.2.2.2), (Option.some.inj h).symm, ?_⟩
          repeat (first | exact True.intro | refine ci ?_)
    · rintro ⟨v62, v63⟩ ho
      have ho := ho.symm
      subst ho
      intro _
      replace h := (osum_l hK4)
      refine awp_seq ?_
      refine awp_seq ?_
      refine awp_region ?_
      intro _
      obtain ⟨q26, h⟩ := grd_ok h
      obtain ⟨z128, u27, h⟩ := ob1_ok h
      refine clb [59] rfl rfl (A_certificate_Check ({ Bound := v62, Nogoods := v63 : GCertificate }) u27) ?_
      intro _
      refine dr ?_
      refine awp_seq ?_
      rcases z128 with _ | e129
      · replace h := erM_nil h
        refine awp_region ?_
        intro _
        refine dr ?_
        refine awp_cond ?_
        intro _
        refine litF ?_
        refine awp_skip ?_
        refine awp_seq ?_
        refine awp_region ?_
        intro _
        refine dr ?_
        refine awp_ret ?_
        intro _
        obtain ⟨rfl, rfl, rfl⟩ := inj3 h
        repeat (first | exact True.intro | refine ci ?_)
      · replace h := erM_no h
        refine awp_region ?_
        intro _
        refine dr ?_
        refine awp_cond ?_
        intro _
        refine litT ?_
        refine awp_seq ?_
        refine awp_region ?_
        intro _
        refine dr ?_
        refine awp_ret ?_
        intro _
        obtain ⟨rfl, rfl, rfl⟩ := inj3 h
        repeat (first | exact True.intro | refine ci ?_)
def M_stratagemref05_Lines_L1 (a0 : ByteArray) : Nat → ByteArray → Int → (List ByteArray) → Option ((List ByteArray) × Bool)
  | 0, _, _, _ => none
  | k7 + 1, v4, v5, v6 =>
    sel (decide (v5 < (a0.size : Int)))
     (grd (0 ≤ v5) (grd (v5 < (a0.size : Int)) (sel ((byt a0 v5) == 10)
       (grd ((v6.length + 1) * 16 ≤ 140737488355328) (M_stratagemref05_Lines_L1 a0 k7 (⟨#[]⟩ : ByteArray) (IntKind.i64.wrap (v5 + 1)) (v6 ++ [v4])))
       (grd (0 ≤ (IntKind.i64.wrap (v5 + 1))) (grd (v5.toNat ≤ (IntKind.i64.wrap (v5 + 1)).toNat) (grd ((IntKind.i64.wrap (v5 + 1)).toNat ≤ a0.size) (grd (v4.size + (a0.extract v5.toNat ((IntKind.i64.wrap (v5 + 1)).toNat)).size ≤ 9223372036854775807) (M_stratagemref05_Lines_L1 a0 k7 (v4 ++ (a0.extract v5.toNat ((IntKind.i64.wrap (v5 + 1)).toNat))) (IntKind.i64.wrap (v5 + 1)) v6))))))))
     (grd (v6.length ≤ 140737488355328) (some (v6, (v4.toList == (⟨#[]⟩ : ByteArray).toList))))
def M_stratagemref05_Lines (a0 : ByteArray) : Option ((List ByteArray) × Bool) :=
  M_stratagemref05_Lines_L1 a0 (((a0.size : Int)).toNat + 1) (⟨#[]⟩ : ByteArray) 0 []
set_option maxHeartbeats 16000000 in
set_option maxRecDepth 100000 in
theorem A_stratagemref05_Lines (a0 : ByteArray) {r1 : List ByteArray} {r2 : Bool} (h : M_stratagemref05_Lines a0 = some (r1, r2)) : ACall cx 56 [.c (.string a0)] (.tup [.sl 1 (r1.map cS), .c (.bool r2)]) := by
  refine acall_of Tryd.func56 rfl (by decide) rfl (Nat.le_of_ble_eq_true rfl) ?_
  intro _
  unfold M_stratagemref05_Lines at h
  refine awp_seq ?_
  refine awp_region ?_
  intro _
  refine dr ?_
  refine awp_seq ?_
  refine awp_region ?_
  intro _
  refine dr ?_
  refine awp_seq ?_
  refine awp_region ?_
  intro _
  refine dr ?_
  refine awp_seq ?_
  refine awp_seq ?_
  refine awp_region ?_
  intro _
  refine dr ?_
  refine awp_block ?_
  refine awp_loop (α := Nat × ByteArray × Int × (List ByteArray)) (fun x => mkS 31 [(0, .c (.string a0)), (4, .own 19 0 0 x.2.2.2.length), (5, .c (.string x.2.1)), (8, .c (.int .i64 (a0.size : Int))), (9, .c (.int .i64 x.2.2.1))] [(19, ⟨9, 1, false, x.2.2.2.map cS⟩)]) (fun x => M_stratagemref05_Lines_L1 a0 x.1 x.2.1 x.2.2.1 x.2.2.2 = some (r1, r2)) (fun x => x.1) (((a0.size : Int)).toNat + 1, (⟨#[]⟩ : ByteArray), 0, []) h ?_ ?_
  · repeat (first | exact True.intro | refine ci ?_)
  · intro x1 h
    intro _
    obtain ⟨k7, m2, h⟩ := succ_of (f := fun n => M_stratagemref05_Lines_L1 a0 n x1.2.1 x1.2.2.1 x1.2.2.2) rfl h
    replace h : M_stratagemref05_Lines_L1 a0 (k7 + 1) x1.2.1 x1.2.2.1 x1.2.2.2 = some (r1, r2) := h
    rw [M_stratagemref05_Lines_L1] at h
    refine awp_seq ?_
    refine awp_region ?_
    intro _
    refine dr ?_
    refine awp_seq ?_
    refine awp_cond ?_
    intro _
    refine spl h (fun c3 h => ?_) (fun c3 h => ?_)
    · refine awp_skip ?_
      refine awp_seq ?_
      refine awp_block ?_
      refine awp_seq ?_
      refine awp_region ?_
      intro _
      refine dr ?_
      refine awp_seq ?_
      refine awp_region ?_
      intro _
      obtain ⟨q4, h⟩ := grd_ok h
      obtain ⟨q5, h⟩ := grd_ok h
      refine pr ?_
      refine pr ?_
      refine dr ?_
      refine awp_cond ?_
      intro _
      refine spl h (fun c6 h => ?_) (fun c6 h => ?_)
      · refine awp_seq ?_
        refine awp_region ?_
        intro _
        obtain ⟨q7, h⟩ := grd_ok h
        refine pl ?_
        refine pl ?_
        refine And.intro (by first | assumption | (show (x1.2.2.2.length + 1) * 16 ≤ 140737488355328; assumption) | omega | (simp; omega)) ?_
        refine pe ?_
        refine dr ?_
        refine awp_region ?_
        intro _
        refine dr ?_
        refine awp_region ?_
        intro _
        refine dr ?_
        refine ⟨(k7, (⟨#[]⟩ : ByteArray), (IntKind.i64.wrap (x1.2.2.1 + 1)), (x1.2.2.2 ++ [x1.2.1])), h, lt_of_succ m2, ?_⟩
        repeat (first | exact True.intro | refine ci ?_)
      · refine awp_region ?_
        intro _
        obtain ⟨q8, h⟩ := grd_ok h
        obtain ⟨q9, h⟩ := grd_ok h
        obtain ⟨q10, h⟩ := grd_ok h
        obtain ⟨q11, h⟩ := grd_ok h
        refine pr ?_
        refine pr ?_
        refine pr ?_
        refine pr ?_
        refine pr ?_
        refine dr ?_
        refine awp_region ?_
        intro _
        refine dr ?_
        refine ⟨(k7, (x1.2.1 ++ (a0.extract x1.2.2.1.toNat ((IntKind.i64.wrap (x1.2.2.1 + 1)).toNat))), (IntKind.i64.wrap (x1.2.2.1 + 1)), x1.2.2.2), h, lt_of_succ m2, ?_⟩
        repeat (first | exact True.intro | refine ci ?_)
    · refine awp_exit ?_
      refine awp_seq ?_
      refine awp_region ?_
      intro _
      refine dr ?_
      refine awp_ret ?_
      obtain ⟨q12, h⟩ := grd_ok h
      intro _
      obtain ⟨rfl, rfl⟩ := inj2 h
      repeat (first | exact True.intro | refine ci ?_)
def M_stratagemref05_Words_L1 (a0 : ByteArray) : Nat → Int → (List ByteArray) → Option (List ByteArray)
  | 0, _, _ => none
  | k9 + 1, v7, v8 =>
    sel (decide (v7 < (a0.size : Int)))
     (grd (0 ≤ v7) (grd (v7 < (a0.size : Int)) (sel ((byt a0 v7) == 32)
       (grd ((v8.length + 1) * 16 ≤ 140737488355328) (M_stratagemref05_Words_L1 a0 k9 (IntKind.i64.wrap (v7 + 1)) (v8 ++ [(⟨#[]⟩ : ByteArray)])))
       (ixn v8 (((IntKind.i64.wrap (((v8.length : Nat) : Int) - 1))).toNat) (fun y10 =>
         ixn v8 (((IntKind.i64.wrap (((v8.length : Nat) : Int) - 1))).toNat) (fun _ =>
          grd (0 ≤ (IntKind.i64.wrap (((v8.length : Nat) : Int) - 1))) (grd ((IntKind.i64.wrap (((v8.length : Nat) : Int) - 1)) < ((v8.length : Nat) : Int)) (grd (0 ≤ (IntKind.i64.wrap (v7 + 1))) (grd (v7.toNat ≤ (IntKind.i64.wrap (v7 + 1)).toNat) (grd ((IntKind.i64.wrap (v7 + 1)).toNat ≤ a0.size) (grd (y10.size + (a0.extract v7.toNat ((IntKind.i64.wrap (v7 + 1)).toNat)).size ≤ 9223372036854775807) (M_stratagemref05_Words_L1 a0 k9 (IntKind.i64.wrap (v7 + 1)) (v8.set (((IntKind.i64.wrap (((v8.length : Nat) : Int) - 1))).toNat) (y10 ++ (a0.extract v7.toNat ((IntKind.i64.wrap (v7 + 1)).toNat))))))))))))))))
     (grd (v8.length ≤ 140737488355328) (some v8))
def M_stratagemref05_Words (a0 : ByteArray) : Option (List ByteArray) :=
  M_stratagemref05_Words_L1 a0 (((a0.size : Int)).toNat + 1) 0 [(⟨#[]⟩ : ByteArray)]
set_option maxHeartbeats 16000000 in
set_option maxRecDepth 100000 in
theorem A_stratagemref05_Words (a0 : ByteArray) {r1 : List ByteArray} (h : M_stratagemref05_Words a0 = some r1) : ACall cx 70 [.c (.string a0)] (.sl 1 (r1.map cS)) := by
  refine acall_of Tryd.func70 rfl (by decide) rfl (Nat.le_of_ble_eq_true rfl) ?_
  intro _
  unfold M_stratagemref05_Words at h
  refine awp_seq ?_
  refine awp_region ?_
  intro _
  refine dr ?_
  refine awp_seq ?_
  refine awp_region ?_
  intro _
  refine dr ?_
  refine awp_seq ?_
  refine awp_seq ?_
  refine awp_region ?_
  intro _
  refine dr ?_
  refine awp_block ?_
  refine awp_loop (α := Nat × Int × (List ByteArray)) (fun x => mkS 33 [(0, .c (.string a0)), (3, .own 5 0 0 x.2.2.length), (7, .c (.int .i64 (a0.size : Int))), (8, .c (.int .i64 x.2.1))] [(5, ⟨9, 1, false, x.2.2.map cS⟩)]) (fun x => M_stratagemref05_Words_L1 a0 x.1 x.2.1 x.2.2 = some r1) (fun x => x.1) (((a0.size : Int)).toNat + 1, 0, [(⟨#[]⟩ : ByteArray)]) h ?_ ?_
  · repeat (first | exact True.intro | refine ci ?_)
  · intro x1 h
    intro _
    obtain ⟨k9, m2, h⟩ := succ_of (f := fun n => M_stratagemref05_Words_L1 a0 n x1.2.1 x1.2.2) rfl h
    replace h : M_stratagemref05_Words_L1 a0 (k9 + 1) x1.2.1 x1.2.2 = some r1 := h
    rw [M_stratagemref05_Words_L1] at h
    refine awp_seq ?_
    refine awp_region ?_
    intro _
    refine dr ?_
    refine awp_seq ?_
    refine awp_cond ?_
    intro _
    refine spl h (fun c3 h => ?_) (fun c3 h => ?_)
    · refine awp_skip ?_
      refine awp_seq ?_
      refine awp_block ?_
      refine awp_seq ?_
      refine awp_region ?_
      intro _
      refine dr ?_
      refine awp_seq ?_
      refine awp_region ?_
      intro _
      obtain ⟨q4, h⟩ := grd_ok h
      obtain ⟨q5, h⟩ := grd_ok h
      refine pr ?_
      refine pr ?_
      refine dr ?_
      refine awp_cond ?_
      intro _
      refine spl h (fun c6 h => ?_) (fun c6 h => ?_)
      · refine awp_region ?_
        intro _
        obtain ⟨q7, h⟩ := grd_ok h
        refine pl ?_
        refine pl ?_
        refine And.intro (by first | assumption | (show (x1.2.2.length + 1) * 16 ≤ 140737488355328; assumption) | omega | (simp; omega)) ?_
        refine pe ?_
        refine dr ?_
        refine awp_region ?_
        intro _
        refine dr ?_
        refine ⟨(k9, (IntKind.i64.wrap (x1.2.1 + 1)), (x1.2.2 ++ [(⟨#[]⟩ : ByteArray)])), h, lt_of_succ m2, ?_⟩
        repeat (first | exact True.intro | refine ci ?_)
      · refine awp_region ?_
        intro _
        obtain ⟨y10, w8, h⟩ := ixn_ok h
        refine Exists.intro (cS y10) (And.intro (by first | exact map_at' w8 | (have w := map_at' (f := cS) w8; simpa [cS] using w)) ?_)
        intro _
        obtain ⟨y11, w9, h⟩ := ixn_ok h
        refine Exists.intro (cS y11) (And.intro (by first | exact map_at' w9 | (have w := map_at' (f := cS) w9; simpa [cS] using w)) ?_)
        intro _
        obtain ⟨q10, h⟩ := grd_ok h
        obtain ⟨q11, h⟩ := grd_ok h
        obtain ⟨q12, h⟩ := grd_ok h
        obtain ⟨q13, h⟩ := grd_ok h
        obtain ⟨q14, h⟩ := grd_ok h
        obtain ⟨q15, h⟩ := grd_ok h
        refine pr ?_
        refine pr ?_
        refine pr ?_
        refine pr ?_
        refine pr ?_
        refine pr ?_
        refine pr ?_
        refine pr ?_
        refine pr ?_
        refine dr ?_
        refine awp_region ?_
        intro _
        refine dr ?_
        refine ⟨(k9, (IntKind.i64.wrap (x1.2.1 + 1)), (x1.2.2.set (((IntKind.i64.wrap (((x1.2.2.length : Nat) : Int) - 1))).toNat) (y10 ++ (a0.extract x1.2.1.toNat ((IntKind.i64.wrap (x1.2.1 + 1)).toNat))))), h, lt_of_succ m2, ?_⟩
        repeat (first | exact True.intro | refine ci ?_)
    · refine awp_exit ?_
      refine awp_seq ?_
      refine awp_region ?_
      intro _
      refine dr ?_
      refine awp_ret ?_
      obtain ⟨q16, h⟩ := grd_ok h
      intro _
      obtain rfl := inj1 h
      repeat (first | exact True.intro | refine ci ?_)
def M_stratagemref30_number_L1 (a0 : ByteArray) : Nat → Int → Int → Option (Int ⊕ (Int × Bool))
  | 0, _, _ => none
  | k14 + 1, v12, v13 =>
    sel (decide (v13 < (a0.size : Int)))
     (sel (decide ((byt a0 v13) < 48))
       (grd (0 ≤ v13) (grd (v13 < (a0.size : Int)) (some (.inr (0, false)))))
       (sel (decide ((byt a0 v13) > 57))
         (grd (0 ≤ v13) (grd (v13 < (a0.size : Int)) (some (.inr (0, false)))))
         (grd (0 ≤ v13) (grd (v13 < (a0.size : Int)) (sel (v13 == 13)
           (some (.inr (0, false)))
           (M_stratagemref30_number_L1 a0 k14 (IntKind.i64.wrap ((IntKind.i64.wrap (10 * v12)) + (IntKind.i64.wrap (IntKind.u8.wrap ((byt a0 v13) - 48))))) (IntKind.i64.wrap (v13 + 1))))))))
     (some (.inl v12))
def M_stratagemref30_number (a0 : ByteArray) : Option (Int × Bool) :=
  ob1 (M_stratagemref30_number_L1 a0 (((a0.size : Int)).toNat + 1) 0 0 : Option (Int ⊕ (Int × Bool)))
   (osum
   (fun v6 => sel (!(a0.toList == (⟨#[]⟩ : ByteArray).toList))
      (sel ((byt a0 0) != 48)
        (grd (0 < (a0.size : Int)) (some (v6, true)))
        (grd (0 < (a0.size : Int)) (some (v6, ((a0.size : Int) == 1)))))
      (some (v6, false)))
   (fun (r7, r8) => some (r7, r8)))
set_option maxHeartbeats 16000000 in
set_option maxRecDepth 100000 in
theorem A_stratagemref30_number (a0 : ByteArray) {r1 : Int} {r2 : Bool} (h : M_stratagemref30_number a0 = some (r1, r2)) : ACall cx 71 [.c (.string a0)] (.tup [.c (.int .i64 r1), .c (.bool r2)]) := by
  refine acall_of Tryd.func71 rfl (by decide) rfl (Nat.le_of_ble_eq_true rfl) ?_
  intro _
  unfold M_stratagemref30_number at h
  refine awp_seq ?_
  refine awp_region ?_
  intro _
  refine dr ?_
  refine awp_seq ?_
  refine awp_region ?_
  intro _
  refine dr ?_
  obtain ⟨o1, h, hK2⟩ := ob1_ok h
  refine awp_cut (α := Int) (fun v6 => mkS 47 [(0, .c (.string a0)), (4, .c (.int .i64 v6))] []) (fun v => o1 = (.inl v)) ?_ ?_
  · refine awp_seq ?_
    refine awp_region ?_
    intro _
    refine dr ?_
    refine awp_block ?_
    refine awp_loop (α := Nat × Int × Int) (fun x => mkS 47 [(0, .c (.string a0)), (4, .c (.int .i64 x.2.1)), (7, .c (.int .i64 (a0.size : Int))), (8, .c (.int .i64 x.2.2))] []) (fun x => M_stratagemref30_number_L1 a0 x.1 x.2.1 x.2.2 = some o1) (fun x => x.1) (((a0.size : Int)).toNat + 1, 0, 0) h ?_ ?_
    · repeat (first | exact True.intro | refine ci ?_)
    · intro x3 h
      intro _
      obtain ⟨k14, m4, h⟩ := succ_of (f := fun n => M_stratagemref30_number_L1 a0 n x3.2.1 x3.2.2) rfl h
      replace h : M_stratagemref30_number_L1 a0 (k14 + 1) x3.2.1 x3.2.2 = some o1 := h
      rw [M_stratagemref30_number_L1] at h
      refine awp_seq ?_
      refine awp_region ?_
      intro _
      refine dr ?_
      refine awp_seq ?_
      refine awp_cond ?_
      intro _
      refine spl h (fun c5 h => ?_) (fun c5 h => ?_)
      · refine awp_skip ?_
        refine awp_seq ?_
        refine awp_block ?_
        refine awp_seq ?_
        refine awp_region ?_
        intro _
        refine dr ?_
        refine awp_seq ?_
        refine awp_seq ?_
        refine awp_region ?_
        intro _
        refine spf h (fun c6 h => ?_) (fun c6 h => ?_)
        · intro _
          refine spf h (fun c7 h => ?_) (fun c7 h => ?_)
          · intro _
            obtain ⟨q8, h⟩ := grd_ok h
            obtain ⟨q9, h⟩ := grd_ok h
            refine pr ?_
            refine pr ?_
            refine pr ?_
            refine pr ?_
            refine dr ?_
            refine awp_cond ?_
            intro _
            refine spl h (fun c10 h => ?_) (fun c10 h => ?_)
            · refine awp_seq ?_
              refine awp_region ?_
              intro _
              refine dr ?_
              refine awp_ret ?_
              have j11 := Option.some.inj h
              subst j11
              replace h := (osum_r hK2)
              intro _
              obtain ⟨rfl, rfl⟩ := inj2 h
              repeat (first | exact True.intro | refine ci ?_)
            · refine awp_skip ?_
              refine awp_region ?_
              intro _
              refine pr ?_
              refine pr ?_
              refine dr ?_
              refine awp_region ?_
              intro _
              refine dr ?_
              refine ⟨(k14, (IntKind.i64.wrap ((IntKind.i64.wrap (10 * x3.2.1)) + (IntKind.i64.wrap (IntKind.u8.wrap ((byt a0 x3.2.2) - 48))))), (IntKind.i64.wrap (x3.2.2 + 1))), h, lt_of_succ m4, ?_⟩
              repeat (first | exact True.intro | refine ci ?_)
          · intro _
            obtain ⟨q12, h⟩ := grd_ok h
            obtain ⟨q13, h⟩ := grd_ok h
            refine pr ?_
            refine pr ?_
            refine pr ?_
            refine pr ?_
            refine dr ?_
            refine awp_cond ?_
            intro _
            refine litT ?_
            refine awp_seq ?_
            refine awp_region ?_
            intro _
            refine dr ?_
            refine awp_ret ?_
            have j14 := Option.some.inj h
            subst j14
            replace h := (osum_r hK2)
            intro _
            obtain ⟨rfl, rfl⟩ := inj2 h
            repeat (first | exact True.intro | refine ci ?_)
        · intro _
          obtain ⟨q15, h⟩ := grd_ok h
          obtain ⟨q16, h⟩ := grd_ok h
          refine pr ?_
          refine pr ?_
          refine dr ?_
          refine awp_cond ?_
          intro _
          refine litT ?_
          refine awp_seq ?_
          refine awp_region ?_
          intro _
          refine dr ?_
          refine awp_ret ?_
          have j17 := Option.some.inj h
          subst j17
          replace h := (osum_r hK2)
          intro _
          obtain ⟨rfl, rfl⟩ := inj2 h
          repeat (first | exact True.intro | refine ci ?_)
      · refine awp_exit ?_
        refine ⟨x3.2.1, (Option.some.inj h).symm, ?_⟩
        repeat (first | exact True.intro | refine ci ?_)
  · rintro v6 ho
    have ho := ho.symm
    subst ho
    intro _
    replace h := (osum_l hK2)
    refine awp_seq ?_
    refine awp_region ?_
    intro _
    refine spl h (fun c18 h => ?_) (fun c18 h => ?_)
    · intro _
      refine spf h (fun c19 h => ?_) (fun c19 h => ?_)
      · intro _
        obtain ⟨q20, h⟩ := grd_ok h
        refine pr ?_
        refine pr ?_
        refine dr ?_
        refine awp_ret ?_
        intro _
        obtain ⟨rfl, rfl⟩ := inj2 h
        repeat (first | exact True.intro | refine ci ?_)
      · intro _
        obtain ⟨q21, h⟩ := grd_ok h
        refine pr ?_
        refine pr ?_
        refine dr ?_
        refine awp_ret ?_
        intro _
        obtain ⟨rfl, rfl⟩ := inj2 h
        repeat (first | exact True.intro | refine ci ?_)
    · intro _
      refine dr ?_
      refine awp_ret ?_
      intro _
      obtain ⟨rfl, rfl⟩ := inj2 h
      repeat (first | exact True.intro | refine ci ?_)
def M_stratagemref30_first (a0 : ByteArray) : Option (Int × Bool) :=
  sel (a0.toList == (⟨#[117, 110, 115, 111, 108, 118, 97, 98, 108, 101]⟩ : ByteArray).toList)
   (some ((-1), true))
   (ob1 (M_stratagemref05_Words a0) (fun z1 =>
     sel (((z1.map cS).length : Int) != 2)
      (some (0, false))
      (ix z1 0 (fun y2 =>
        sel (!(y2.toList == (⟨#[108, 111, 119, 101, 114]⟩ : ByteArray).toList))
         (some (0, false))
         (ix z1 1 (fun y3 =>
           ob2 (M_stratagemref30_number y3) (fun z4 z5 =>
            some (z4, z5))))))))
set_option maxHeartbeats 16000000 in
set_option maxRecDepth 100000 in
theorem A_stratagemref30_first (a0 : ByteArray) {r1 : Int} {r2 : Bool} (h : M_stratagemref30_first a0 = some (r1, r2)) : ACall cx 57 [.c (.string a0)] (.tup [.c (.int .i64 r1), .c (.bool r2)]) := by
  refine acall_of Tryd.func57 rfl (by decide) rfl (Nat.le_of_ble_eq_true rfl) ?_
  intro _
  unfold M_stratagemref30_first at h
  refine awp_seq ?_
  refine awp_region ?_
  intro _
  refine dr ?_
  refine awp_seq ?_
  refine awp_seq ?_
  refine awp_region ?_
  intro _
  refine dr ?_
  refine awp_cond ?_
  intro _
  refine spl h (fun c1 h => ?_) (fun c1 h => ?_)
  · refine awp_seq ?_
    refine awp_region ?_
    intro _
    refine dr ?_
    refine awp_ret ?_
    intro _
    obtain ⟨rfl, rfl⟩ := inj2 h
    repeat (first | exact True.intro | refine ci ?_)
  · refine awp_skip ?_
    refine awp_seq ?_
    refine awp_region ?_
    intro _
    obtain ⟨z1, u2, h⟩ := ob1_ok h
    refine cl rfl (A_stratagemref05_Words a0 u2) ?_
    intro _
    refine dr ?_
    refine awp_seq ?_
    refine awp_seq ?_
    refine awp_region ?_
    intro _
    refine spf h (fun c3 h => ?_) (fun c3 h => ?_)
    · intro _
      obtain ⟨y2, w4, q5, h⟩ := ix_ok h
      refine Exists.intro (cS y2) (And.intro (map_at' w4) ?_)
      intro _
      refine pr ?_
      refine dr ?_
      refine awp_cond ?_
      intro _
      refine spl h (fun c6 h => ?_) (fun c6 h => ?_)
      · refine awp_seq ?_
        refine awp_region ?_
        intro _
        refine dr ?_
        refine awp_ret ?_
        intro _
        obtain ⟨rfl, rfl⟩ := inj2 h
        repeat (first | exact True.intro | refine ci ?_)
      · refine awp_skip ?_
        refine awp_seq ?_
        refine awp_region ?_
        intro _
        obtain ⟨y3, w7, q8, h⟩ := ix_ok h
        refine Exists.intro (cS y3) (And.intro (map_at' w7) ?_)
        intro _
        obtain ⟨z4, z5, u9, h⟩ := ob2_ok h
        refine cl rfl (A_stratagemref30_number y3 u9) ?_
        intro _
        refine pr ?_
        refine dr ?_
        refine awp_ret ?_
        intro _
        obtain ⟨rfl, rfl⟩ := inj2 h
        repeat (first | exact True.intro | refine ci ?_)
    · intro _
      refine dr ?_
      refine awp_cond ?_
      intro _
      refine litT ?_
      refine awp_seq ?_
      refine awp_region ?_
      intro _
      refine dr ?_
      refine awp_ret ?_
      intro _
      obtain ⟨rfl, rfl⟩ := inj2 h
      repeat (first | exact True.intro | refine ci ?_)
def M_stratagemref30_fact_L1 (a0 : ByteArray) : Nat → Int → Option (Fact × Bool)
  | 0, _ => none
  | k11 + 1, v10 =>
    sel (decide (v10 < (a0.size : Int)))
     (grd (0 ≤ v10) (grd (v10 < (a0.size : Int)) (sel ((byt a0 v10) == 61)
       (ob2 (M_stratagemref30_number (a0.extract 0 v10.toNat)) (fun z12 z13 =>
         grd (v10.toNat ≤ a0.size) (ob2 (M_stratagemref30_number (a0.extract ((IntKind.i64.wrap (v10 + 1)).toNat) a0.size)) (fun z14 z15 =>
          grd (0 ≤ (IntKind.i64.wrap (v10 + 1))) (grd ((IntKind.i64.wrap (v10 + 1)).toNat ≤ a0.size) (sel z13
           (some ((z12, z14), z15))
           (some ((z12, z14), false))))))))
       (M_stratagemref30_fact_L1 a0 k11 (IntKind.i64.wrap (v10 + 1))))))
     (some ((0, 0), false))
def M_stratagemref30_fact (a0 : ByteArray) : Option (Fact × Bool) :=
  M_stratagemref30_fact_L1 a0 (((a0.size : Int)).toNat + 1) 0
set_option maxHeartbeats 16000000 in
set_option maxRecDepth 100000 in
theorem A_stratagemref30_fact (a0 : ByteArray) {r1 : Fact} {r2 : Bool} (h : M_stratagemref30_fact a0 = some (r1, r2)) : ACall cx 72 [.c (.string a0)] (.tup [.agg [.c (.int .i64 r1.1), .c (.int .i64 r1.2)], .c (.bool r2)]) := by
  refine acall_of Tryd.func72 rfl (by decide) rfl (Nat.le_of_ble_eq_true rfl) ?_
  intro _
  unfold M_stratagemref30_fact at h
  refine awp_seq ?_
  refine awp_region ?_
  intro _
  refine dr ?_
  refine awp_seq ?_
  refine awp_seq ?_
  refine awp_region ?_
  intro _
  refine dr ?_
  refine awp_block ?_
  refine awp_loop (α := Nat × Int) (fun x => mkS 42 [(0, .c (.string a0)), (2, .ptr 2 0 0 0), (10, .c (.int .i64 (a0.size : Int))), (11, .c (.int .i64 x.2))] [(2, ⟨54, 2, true, [[.c (.int .i64 0), .c (.int .i64 0)]]⟩)]) (fun x => M_stratagemref30_fact_L1 a0 x.1 x.2 = some (r1, r2)) (fun x => x.1) (((a0.size : Int)).toNat + 1, 0) h ?_ ?_
  · repeat (first | exact True.intro | refine ci ?_)
  · intro x1 h
    intro _
    obtain ⟨k11, m2, h⟩ := succ_of (f := fun n => M_stratagemref30_fact_L1 a0 n x1.2) rfl h
    replace h : M_stratagemref30_fact_L1 a0 (k11 + 1) x1.2 = some (r1, r2) := h
    rw [M_stratagemref30_fact_L1] at h
    refine awp_seq ?_
    refine awp_region ?_
    intro _
    refine dr ?_
    refine awp_seq ?_
    refine awp_cond ?_
    intro _
    refine spl h (fun c3 h => ?_) (fun c3 h => ?_)
    · refine awp_skip ?_
      refine awp_seq ?_
      refine awp_block ?_
      refine awp_seq ?_
      refine awp_region ?_
      intro _
      refine dr ?_
      refine awp_seq ?_
      refine awp_region ?_
      intro _
      obtain ⟨q4, h⟩ := grd_ok h
      obtain ⟨q5, h⟩ := grd_ok h
      refine pr ?_
      refine pr ?_
      refine dr ?_
      refine awp_cond ?_
      intro _
      refine spl h (fun c6 h => ?_) (fun c6 h => ?_)
      · refine awp_seq ?_
        refine awp_region ?_
        intro _
        obtain ⟨z12, z13, u7, h⟩ := ob2_ok h
        refine cl rfl (A_stratagemref30_number (a0.extract 0 x1.2.toNat) u7) ?_
        intro _
        obtain ⟨q8, h⟩ := grd_ok h
        refine pr ?_
        refine pr ?_
        refine pr ?_
        refine dr ?_
        refine awp_seq ?_
        refine awp_region ?_
        intro _
        obtain ⟨z14, z15, u9, h⟩ := ob2_ok h
        refine cl rfl (A_stratagemref30_number (a0.extract ((IntKind.i64.wrap (x1.2 + 1)).toNat) a0.size) u9) ?_
        intro _
        obtain ⟨q10, h⟩ := grd_ok h
        obtain ⟨q11, h⟩ := grd_ok h
        refine pr ?_
        refine pr ?_
        refine pr ?_
        refine dr ?_
        refine awp_seq ?_
        refine awp_region ?_
        intro _
        refine spl h (fun c12 h => ?_) (fun c12 h => ?_)
        · intro _
          refine dr ?_
          refine awp_ret ?_
          intro _
          obtain ⟨rfl, rfl⟩ := inj2 h
          repeat (first | exact True.intro | refine ci ?_)
        · intro _
          refine dr ?_
          refine awp_ret ?_
          intro _
          obtain ⟨rfl, rfl⟩ := inj2 h
          repeat (first | exact True.intro | refine ci ?_)
      · refine awp_skip ?_
        refine awp_region ?_
        intro _
        refine dr ?_
        refine ⟨(k11, (IntKind.i64.wrap (x1.2 + 1))), h, lt_of_succ m2, ?_⟩
        repeat (first | exact True.intro | refine ci ?_)
    · refine awp_exit ?_
      refine awp_seq ?_
      refine awp_region ?_
      intro _
      refine dr ?_
      refine awp_ret ?_
      intro _
      obtain ⟨rfl, rfl⟩ := inj2 h
      repeat (first | exact True.intro | refine ci ?_)
def M_stratagemref30_nogood_L1 (z1 : List ByteArray) (z15 : Int) : Nat → Bool → Int → (List Fact) → Option (Nogood × Bool)
  | 0, _, _, _ => none
  | k29 + 1, v26, v27, v28 =>
    sel (decide (v27 < ((((z1.take ((z1.map cS).length)).drop 2).map cS).length : Int)))
     (ix ((z1.take ((z1.map cS).length)).drop 2) v27 (fun y30 =>
       ob2 (M_stratagemref30_fact y30) (fun z31 z32 =>
        sel v26
         (grd ((v28.length + 1) * 16 ≤ 140737488355328) (M_stratagemref30_nogood_L1 z1 z15 k29 z32 (IntKind.i64.wrap (v27 + 1)) (v28 ++ [z31])))
         (grd ((v28.length + 1) * 16 ≤ 140737488355328) (M_stratagemref30_nogood_L1 z1 z15 k29 false (IntKind.i64.wrap (v27 + 1)) (v28 ++ [z31]))))))
     (grd (v28.length ≤ 140737488355328) (some ((v28, z15), v26)))
def M_stratagemref30_nogood (a0 : ByteArray) : Option (Nogood × Bool) :=
  ob1 (M_stratagemref05_Words a0) (fun z1 =>
   ob1 (sel (decide (((z1.map cS).length : Int) < 2))
     (some (.inr (([], 0), false)))
     (ix z1 0 (fun y9 =>
       sel (!(y9.toList == (⟨#[110, 111, 103, 111, 111, 100]⟩ : ByteArray).toList))
        (some (.inr (([], 0), false)))
        (ix z1 1 (fun y10 =>
          sel (y10.toList == (⟨#[]⟩ : ByteArray).toList)
           (some (.inr (([], 0), false)))
           (ix z1 1 (fun y11 =>
             ix z1 1 (fun y12 =>
              grd (0 ≤ (IntKind.i64.wrap ((y12.size : Int) - 1))) (grd ((IntKind.i64.wrap ((y12.size : Int) - 1)) < (y11.size : Int)) (sel ((byt y11 (IntKind.i64.wrap ((y12.size : Int) - 1))) != 58)
               (some (.inr (([], 0), false)))
               (some (.inl ()))))))))))) : Option (Unit ⊕ (Nogood × Bool)))
    (osum
    (fun _ => ix z1 1 (fun y13 =>
       ix z1 1 (fun y14 =>
        ob2 (M_stratagemref30_number (y13.extract 0 ((IntKind.i64.wrap ((y14.size : Int) - 1)).toNat))) (fun z15 z16 =>
         grd (0 ≤ (IntKind.i64.wrap ((y14.size : Int) - 1))) (grd ((IntKind.i64.wrap ((y14.size : Int) - 1)).toNat ≤ y13.size) (grd (2 ≤ (z1.map cS).length) (M_stratagemref30_nogood_L1 z1 z15 ((((((z1.take ((z1.map cS).length)).drop 2).map cS).length : Int)).toNat + 1) z16 0 [])))))))
    (fun (r6, r7) => some (r6, r7))))
set_option maxHeartbeats 16000000 in
set_option maxRecDepth 100000 in
theorem A_stratagemref30_nogood (a0 : ByteArray) {r1 : Nogood} {r2 : Bool} (h : M_stratagemref30_nogood a0 = some (r1, r2)) : ACall cx 58 [.c (.string a0)] (.tup [.agg [.sl 2 (r1.1.map cF), .c (.int .i64 r1.2)], .c (.bool r2)]) := by
  refine acall_of Tryd.func58 rfl (by decide) rfl (Nat.le_of_ble_eq_true rfl) ?_
  intro _
  unfold M_stratagemref30_nogood at h
  refine awp_seq ?_
  refine awp_region ?_
  intro _
  refine dr ?_
  refine awp_seq ?_
  refine awp_region ?_
  intro _
  obtain ⟨z1, u1, h⟩ := ob1_ok h
  refine cl rfl (A_stratagemref05_Words a0 u1) ?_
  intro _
  refine dr ?_
  obtain ⟨o2, h, hK3⟩ := ob1_ok h
  refine awp_cut (α := Unit) (fun _ => mkS 82 [(2, .ptr 2 0 0 0), (4, .sl 1 (z1.map cS))] [(2, ⟨45, 2, true, [[.c (.slice none 0 0), .c (.int .i64 0)]]⟩)]) (fun v => o2 = (.inl v)) ?_ ?_
  · refine awp_seq ?_
    refine awp_region ?_
    intro _
    refine spf h (fun c4 h => ?_) (fun c4 h => ?_)
    · intro _
      obtain ⟨y9, w5, q6, h⟩ := ix_ok h
      refine Exists.intro (cS y9) (And.intro (map_at' w5) ?_)
      intro _
      refine spf h (fun c7 h => ?_) (fun c7 h => ?_)
      · intro _
        obtain ⟨y10, w8, q9, h⟩ := ix_ok h
        refine Exists.intro (cS y10) (And.intro (map_at' w8) ?_)
        intro _
        refine spf h (fun c10 h => ?_) (fun c10 h => ?_)
        · intro _
          obtain ⟨y11, w11, q12, h⟩ := ix_ok h
          refine Exists.intro (cS y11) (And.intro (map_at' w11) ?_)
          intro _
          obtain ⟨y12, w13, q14, h⟩ := ix_ok h
          refine Exists.intro (cS y12) (And.intro (map_at' w13) ?_)
          intro _
          obtain ⟨q15, h⟩ := grd_ok h
          obtain ⟨q16, h⟩ := grd_ok h
          refine pr ?_
          refine pr ?_
          refine pr ?_
          refine pr ?_
          refine pr ?_
          refine pr ?_
          refine dr ?_
          refine awp_cond ?_
          intro _
          refine spl h (fun c17 h => ?_) (fun c17 h => ?_)
          · refine awp_seq ?_
            refine awp_region ?_
            intro _
            refine dr ?_
            refine awp_ret ?_
            have j18 := Option.some.inj h
            subst j18
            replace h := (osum_r hK3)
            intro _
            obtain ⟨rfl, rfl⟩ := inj2 h
            repeat (first | exact True.intro | refine ci ?_)
          · refine awp_skip ?_
            refine ⟨(), (Option.some.inj h).symm, ?_⟩
            repeat (first | exact True.intro | refine ci ?_)
        · intro _
          refine pr ?_
          refine pr ?_
          refine dr ?_
          refine awp_cond ?_
          intro _
          refine litT ?_
          refine awp_seq ?_
          refine awp_region ?_
          intro _
          refine dr ?_
          refine awp_ret ?_
          have j19 := Option.some.inj h
          subst j19
          replace h := (osum_r hK3)
          intro _
          obtain ⟨rfl, rfl⟩ := inj2 h
          repeat (first | exact True.intro | refine ci ?_)
      · intro _
        refine pr ?_
        refine dr ?_
        refine awp_cond ?_
        intro _
        refine litT ?_
        refine awp_seq ?_
        refine awp_region ?_
        intro _
        refine dr ?_
        refine awp_ret ?_
        have j20 := Option.some.inj h
        subst j20
        replace h := (osum_r hK3)
        intro _
        obtain ⟨rfl, rfl⟩ := inj2 h
        repeat (first | exact True.intro | refine ci ?_)
    · intro _
      refine dr ?_
      refine awp_cond ?_
      intro _
      refine litT ?_
      refine awp_seq ?_
      refine awp_region ?_
      intro _
      refine dr ?_
      refine awp_ret ?_
      have j21 := Option.some.inj h
      subst j21
      replace h := (osum_r hK3)
      intro _
      obtain ⟨rfl, rfl⟩ := inj2 h
      repeat (first | exact True.intro | refine ci ?_)
  · rintro _ ho
    have ho := ho.symm
    subst ho
    intro _
    replace h := (osum_l hK3)
    refine awp_seq ?_
    refine awp_region ?_
    intro _
    obtain ⟨y13, w22, q23, h⟩ := ix_ok h
    refine Exists.intro (cS y13) (And.intro (map_at' w22) ?_)
    intro _
    obtain ⟨y14, w24, q25, h⟩ := ix_ok h
    refine Exists.intro (cS y14) (And.intro (map_at' w24) ?_)
    intro _
    obtain ⟨z15, z16, u26, h⟩ := ob2_ok h
    refine cl rfl (A_stratagemref30_number (y13.extract 0 ((IntKind.i64.wrap ((y14.size : Int) - 1)).toNat)) u26) ?_
    intro _
    obtain ⟨q27, h⟩ := grd_ok h
    obtain ⟨q28, h⟩ := grd_ok h
    refine pr ?_
    refine pr ?_
    refine pr ?_
    refine pr ?_
    refine pr ?_
    refine dr ?_
    refine awp_seq ?_
    refine awp_region ?_
    intro _
    refine dr ?_
    refine awp_seq ?_
    refine awp_seq ?_
    refine awp_region ?_
    intro _
    obtain ⟨q29, h⟩ := grd_ok h
    refine pr ?_
    refine pr ?_
    refine pr ?_
    refine dr ?_
    refine awp_block ?_
    refine awp_loop (α := Nat × Bool × Int × (List Fact)) (fun x => mkS 82 [(2, .ptr 2 0 0 0), (6, .c (.bool x.2.1)), (7, .ptr 7 0 0 0), (58, .sl 1 (((z1.take ((z1.map cS).length)).drop 2).map cS)), (59, .c (.int .i64 ((((z1.take ((z1.map cS).length)).drop 2).map cS).length : Int))), (60, .c (.int .i64 x.2.2.1))] [(2, ⟨45, 2, true, [[.c (.slice none 0 0), .c (.int .i64 0)]]⟩), (7, ⟨45, 2, true, [[.own 77 0 0 x.2.2.2.length, .c (.int .i64 z15)]]⟩), (77, ⟨54, 2, false, x.2.2.2.map cF⟩)]) (fun x => M_stratagemref30_nogood_L1 z1 z15 x.1 x.2.1 x.2.2.1 x.2.2.2 = some (r1, r2)) (fun x => x.1) ((((((z1.take ((z1.map cS).length)).drop 2).map cS).length : Int)).toNat + 1, z16, 0, []) h ?_ ?_
    · repeat (first | exact True.intro | refine ci ?_)
    · intro x30 h
      intro _
      obtain ⟨k29, m31, h⟩ := succ_of (f := fun n => M_stratagemref30_nogood_L1 z1 z15 n x30.2.1 x30.2.2.1 x30.2.2.2) rfl h
      replace h : M_stratagemref30_nogood_L1 z1 z15 (k29 + 1) x30.2.1 x30.2.2.1 x30.2.2.2 = some (r1, r2) := h
      rw [M_stratagemref30_nogood_L1] at h
      refine awp_seq ?_
      refine awp_region ?_
      intro _
      refine dr ?_
      refine awp_seq ?_
      refine awp_cond ?_
      intro _
      refine spl h (fun c32 h => ?_) (fun c32 h => ?_)
      · refine awp_skip ?_
        refine awp_seq ?_
        refine awp_block ?_
        refine awp_seq ?_
        refine awp_region ?_
        intro _
        obtain ⟨y30, w33, q34, h⟩ := ix_ok h
        refine Exists.intro (cS y30) (And.intro (map_at' w33) ?_)
        intro _
        refine pr ?_
        refine dr ?_
        refine awp_seq ?_
        refine awp_region ?_
        intro _
        obtain ⟨z31, z32, u35, h⟩ := ob2_ok h
        refine cl rfl (A_stratagemref30_fact y30 u35) ?_
        intro _
        refine dr ?_
        refine awp_seq ?_
        refine awp_region ?_
        intro _
        refine spl h (fun c36 h => ?_) (fun c36 h => ?_)
        · intro _
          refine dr ?_
          refine awp_region ?_
          intro _
          obtain ⟨q37, h⟩ := grd_ok h
          refine pl ?_
          refine pl ?_
          refine And.intro (by first | assumption | (show (x30.2.2.2.length + 1) * 16 ≤ 140737488355328; assumption) | omega | (simp; omega)) ?_
          refine pe ?_
          refine dr ?_
          refine awp_region ?_
          intro _
          refine dr ?_
          refine ⟨(k29, z32, (IntKind.i64.wrap (x30.2.2.1 + 1)), (x30.2.2.2 ++ [z31])), h, lt_of_succ m31, ?_⟩
          repeat (first | exact True.intro | refine ci ?_)
        · intro _
          refine dr ?_
          refine awp_region ?_
          intro _
          obtain ⟨q38, h⟩ := grd_ok h
          refine pl ?_
          refine pl ?_
          refine And.intro (by first | assumption | (show (x30.2.2.2.length + 1) * 16 ≤ 140737488355328; assumption) | omega | (simp; omega)) ?_
          refine pe ?_
          refine dr ?_
          refine awp_region ?_
          intro _
          refine dr ?_
          refine ⟨(k29, false, (IntKind.i64.wrap (x30.2.2.1 + 1)), (x30.2.2.2 ++ [z31])), h, lt_of_succ m31, ?_⟩
          repeat (first | exact True.intro | refine ci ?_)
      · refine awp_exit ?_
        refine awp_seq ?_
        refine awp_region ?_
        intro _
        refine dr ?_
        refine awp_ret ?_
        obtain ⟨q39, h⟩ := grd_ok h
        intro _
        obtain ⟨rfl, rfl⟩ := inj2 h
        repeat (first | exact True.intro | refine ci ?_)
def M_stratagemref30_Parse_L1 (z1 : List ByteArray) : Nat → Int → Int → (List Nogood) → Option ((Int × (List Nogood)) ⊕ (GCertificate × Int × Int))
  | 0, _, _, _ => none
  | k107 + 1, v104, v105, v106 =>
    sel (decide (v104 < ((z1.map cS).length : Int)))
     (ix z1 v104 (fun y108 =>
       ob1 (sel (v104 == 0)
         (ob2 (M_stratagemref30_first y108) (fun z117 z118 =>
           some (z118, z117, v106)))
         (ob2 (M_stratagemref30_nogood y108) (fun z119 z120 =>
           grd ((v106.length + 1) * 32 ≤ 140737488355328) (some (z120, v105, (v106 ++ [z119]))))) : Option (Bool × Int × (List Nogood)))
        (fun (v113, v114, v115) => sel (!v113)
           (some (.inr ({ Bound := 0, Nogoods := [] : GCertificate }, (IntKind.i64.wrap (v104 + 1)), 2)))
           (M_stratagemref30_Parse_L1 z1 k107 (IntKind.i64.wrap (v104 + 1)) v114 v115))))
     (some (.inl (v105, v106)))
def M_stratagemref30_Parse (a0 : ByteArray) : Option (GCertificate × Int × Int) :=
  sel (decide ((a0.size : Int) > 65536))
   (some ({ Bound := 0, Nogoods := [] : GCertificate }, 0, 5))
   (ob2 (M_stratagemref05_Lines a0) (fun z1 z2 =>
     ob1 (M_stratagemref30_Parse_L1 z1 ((((z1.map cS).length : Int)).toNat + 1) 0 0 [] : Option ((Int × (List Nogood)) ⊕ (GCertificate × Int × Int)))
      (osum
      (fun (v59, v60) => ob1 (sel (!z2)
          (some (.inr ({ Bound := 0, Nogoods := [] : GCertificate }, (IntKind.i64.wrap (((z1.map cS).length : Int) + 1)), 2)))
          (sel (((z1.map cS).length : Int) == 0)
            (some (.inr ({ Bound := 0, Nogoods := [] : GCertificate }, (IntKind.i64.wrap (((z1.map cS).length : Int) + 1)), 2)))
            (some (.inl ()))) : Option (Unit ⊕ (GCertificate × Int × Int)))
         (osum
         (fun _ => grd (v60.length ≤ 140737488355328) (ob1 (M_stratagemref30_Check ({ Bound := v59, Nogoods := v60 : GCertificate })) (fun z125 =>
            sel (z125 != 0)
             (some ({ Bound := 0, Nogoods := [] : GCertificate }, 0, z125))
             (some ({ Bound := v59, Nogoods := v60 : GCertificate }, 0, 0)))))
         (fun (r121, r122, r123) => some (r121, r122, r123))))
      (fun (r61, r62, r63) => some (r61, r62, r63)))))
set_option maxHeartbeats 16000000 in
set_option maxRecDepth 100000 in
theorem A_stratagemref30_Parse (a0 : ByteArray) {r1 : GCertificate} {r2 : Int} {r3 : Int} (h : M_stratagemref30_Parse a0 = some (r1, r2, r3)) : ACall cx 29 [.c (.string a0)] (.tup [.agg [.c (.int .i64 r1.Bound), .sl 2 (r1.Nogoods.map cN)], .c (.int .i64 r2), .c (.int .i64 r3)]) := by
  refine acall_of Tryd.func29 rfl (by decide) rfl (Nat.le_of_ble_eq_true rfl) ?_
  intro _
  unfold M_stratagemref30_Parse at h
  refine awp_seq ?_
  refine awp_region ?_
  intro _
  refine dr ?_
  refine awp_seq ?_
  refine awp_seq ?_
  refine awp_region ?_
  intro _
  refine dr ?_
  refine awp_cond ?_
  intro _
  refine spl h (fun c1 h => ?_) (fun c1 h => ?_)
  · refine awp_seq ?_
    refine awp_region ?_
    intro _
    refine dr ?_
    refine awp_ret ?_
    intro _
    obtain ⟨rfl, rfl, rfl⟩ := inj3 h
    repeat (first | exact True.intro | refine ci ?_)
  · refine awp_skip ?_
    refine awp_seq ?_
    refine awp_region ?_
    intro _
    obtain ⟨z1, z2, u2, h⟩ := ob2_ok h
    refine cl rfl (A_stratagemref05_Lines a0 u2) ?_
    intro _
    refine dr ?_
    refine awp_seq ?_
    refine awp_region ?_
    intro _
    refine dr ?_
    obtain ⟨o3, h, hK4⟩ := ob1_ok h
    refine awp_cut (α := Int × (List Nogood)) (fun (v59, v60) => mkS 75 [(2, .ptr 2 0 0 0), (5, .sl 1 (z1.map cS)), (6, .c (.bool z2)), (7, .ptr 7 0 0 0)] [(2, ⟨25, 2, true, [[.c (.int .i64 0), .c (.slice none 0 0)]]⟩), (7, ⟨25, 2, true, [[.c (.int .i64 v59), .own 48 0 0 v60.length]]⟩), (48, ⟨45, 2, false, v60.map cN⟩)]) (fun v => o3 = (.inl v)) ?_ ?_
    · refine awp_seq ?_
      refine awp_region ?_
      intro _
      refine dr ?_
      refine awp_block ?_
      refine awp_loop (α := Nat × Int × Int × (List Nogood)) (fun x => mkS 75 [(2, .ptr 2 0 0 0), (5, .sl 1 (z1.map cS)), (6, .c (.bool z2)), (7, .ptr 7 0 0 0), (24, .sl 1 (z1.map cS)), (25, .c (.int .i64 ((z1.map cS).length : Int))), (26, .c (.int .i64 x.2.1))] [(2, ⟨25, 2, true, [[.c (.int .i64 0), .c (.slice none 0 0)]]⟩), (7, ⟨25, 2, true, [[.c (.int .i64 x.2.2.1), .own 48 0 0 x.2.2.2.length]]⟩), (48, ⟨45, 2, false, x.2.2.2.map cN⟩)]) (fun x => M_stratagemref30_Parse_L1 z1 x.1 x.2.1 x.2.2.1 x.2.2.2 = some o3) (fun x => x.1) ((((z1.map cS).length : Int)).toNat + 1, 0, 0, []) h ?_ ?_
      · repeat (first | exact True.intro | refine ci ?_)
      · intro x5 h
        intro _
        obtain ⟨k107, m6, h⟩ := succ_of (f := fun n => M_stratagemref30_Parse_L1 z1 n x5.2.1 x5.2.2.1 x5.2.2.2) rfl h
        replace h : M_stratagemref30_Parse_L1 z1 (k107 + 1) x5.2.1 x5.2.2.1 x5.2.2.2 = some o3 := h
        rw [M_stratagemref30_Parse_L1] at h
        refine awp_seq ?_
        refine awp_region ?_
        intro _
        refine dr ?_
        refine awp_seq ?_
        refine awp_cond ?_
        intro _
        refine spl h (fun c7 h => ?_) (fun c7 h => ?_)
        · refine awp_skip ?_
          refine awp_seq ?_
          refine awp_block ?_
          refine awp_seq ?_
          refine awp_region ?_
          intro _
          obtain ⟨y108, w8, q9, h⟩ := ix_ok h
          refine Exists.intro (cS y108) (And.intro (map_at' w8) ?_)
          intro _
          refine pr ?_
          refine dr ?_
          refine awp_seq ?_
          refine awp_region ?_
          intro _
          refine dr ?_
          obtain ⟨o10, h, hK11⟩ := ob1_ok h
          refine awp_cut (α := Bool × Int × (List Nogood)) (fun (v113, v114, v115) => mkS 75 [(2, .ptr 2 0 0 0), (5, .sl 1 (z1.map cS)), (6, .c (.bool z2)), (7, .ptr 7 0 0 0), (8, .c (.int .i64 x5.2.1)), (10, .c (.bool v113)), (24, .sl 1 (z1.map cS)), (25, .c (.int .i64 ((z1.map cS).length : Int))), (26, .c (.int .i64 x5.2.1))] [(2, ⟨25, 2, true, [[.c (.int .i64 0), .c (.slice none 0 0)]]⟩), (7, ⟨25, 2, true, [[.c (.int .i64 v114), .own 48 0 0 v115.length]]⟩), (48, ⟨45, 2, false, v115.map cN⟩)]) (fun v => o10 = v) ?_ ?_
          · refine awp_seq ?_
            refine awp_region ?_
            intro _
            refine dr ?_
            refine awp_cond ?_
            intro _
            refine spl h (fun c12 h => ?_) (fun c12 h => ?_)
            · refine awp_region ?_
              intro _
              obtain ⟨z117, z118, u13, h⟩ := ob2_ok h
              refine cl rfl (A_stratagemref30_first y108 u13) ?_
              intro _
              refine dr ?_
              refine ⟨(z118, z117, x5.2.2.2), (Option.some.inj h).symm, ?_⟩
              repeat (first | exact True.intro | refine ci ?_)
            · refine awp_seq ?_
              refine awp_region ?_
              intro _
              obtain ⟨z119, z120, u14, h⟩ := ob2_ok h
              refine cl rfl (A_stratagemref30_nogood y108 u14) ?_
              intro _
              refine dr ?_
              refine awp_region ?_
              intro _
              obtain ⟨q15, h⟩ := grd_ok h
              refine pl ?_
              refine pl ?_
              refine And.intro (by first | assumption | (show (x5.2.2.2.length + 1) * 32 ≤ 140737488355328; assumption) | omega | (simp; omega)) ?_
              refine pe ?_
              refine dr ?_
              refine ⟨(z120, x5.2.2.1, (x5.2.2.2 ++ [z119])), (Option.some.inj h).symm, ?_⟩
              repeat (first | exact True.intro | refine ci ?_)
          · rintro ⟨v113, v114, v115⟩ ho
            have ho := ho.symm
            subst ho
            intro _
            replace h := hK11
            refine awp_seq ?_
            refine awp_region ?_
            intro _
            refine dr ?_
            refine awp_cond ?_
            intro _
            refine spl h (fun c16 h => ?_) (fun c16 h => ?_)
            · refine awp_seq ?_
              refine awp_region ?_
              intro _
              refine dr ?_
              refine awp_ret ?_
              have j17 := Option.some.inj h
              subst j17
              replace h := (osum_r hK4)
              intro _
              obtain ⟨rfl, rfl, rfl⟩ := inj3 h
              repeat (first | exact True.intro | refine ci ?_)
            · refine awp_skip ?_
              refine awp_region ?_
              intro _
              refine dr ?_
              refine ⟨(k107, (IntKind.i64.wrap (x5.2.1 + 1)), v114, v115), h, lt_of_succ m6, ?_⟩
              repeat (first | exact True.intro | refine ci ?_)
        · refine awp_exit ?_
          refine ⟨(x5.2.2.1, x5.2.2.2), (Option.some.inj h).symm, ?_⟩
          repeat (first | exact True.intro | refine ci ?_)
    · rintro ⟨v59, v60⟩ ho
      have ho := ho.symm
      subst ho
      intro _
      replace h := (osum_l hK4)
      obtain ⟨o18, h, hK19⟩ := ob1_ok h
      refine awp_cut (α := Unit) (fun _ => mkS 75 [(2, .ptr 2 0 0 0), (7, .ptr 7 0 0 0)] [(2, ⟨25, 2, true, [[.c (.int .i64 0), .c (.slice none 0 0)]]⟩), (7, ⟨25, 2, true, [[.c (.int .i64 v59), .own 48 0 0 v60.length]]⟩), (48, ⟨45, 2, false, v60.map cN⟩)]) (fun v => o18 = (.inl v)) ?_ ?_
      · refine awp_seq ?_
        refine awp_region ?_
        intro _
        refine spf h (fun c20 h => ?_) (fun c20 h => ?_)
        · intro _
          refine dr ?_
          refine awp_cond ?_
          intro _
          refine spl h (fun c21 h => ?_) (fun c21 h => ?_)
          · refine awp_seq ?_
            refine awp_region ?_
            intro _
            refine dr ?_
            refine awp_ret ?_
            have j22 := Option.some.inj h
            subst j22
            replace h := (osum_r hK19)
            intro _
            obtain ⟨rfl, rfl, rfl⟩ := inj3 h
            repeat (first | exact True.intro | refine ci ?_)
          · refine awp_skip ?_
            refine ⟨(), (Option.some.inj h).symm, ?_⟩
            repeat (first | exact True.intro | refine ci ?_)
        · intro _
          refine dr ?_
          refine awp_cond ?_
          intro _
          refine litT ?_
          refine awp_seq ?_
          refine awp_region ?_
          intro _
          refine dr ?_
          refine awp_ret ?_
          have j23 := Option.some.inj h
          subst j23
          replace h := (osum_r hK19)
          intro _
          obtain ⟨rfl, rfl, rfl⟩ := inj3 h
          repeat (first | exact True.intro | refine ci ?_)
      · rintro _ ho
        have ho := ho.symm
        subst ho
        intro _
        replace h := (osum_l hK19)
        refine awp_seq ?_
        refine awp_seq ?_
        refine awp_region ?_
        intro _
        obtain ⟨q24, h⟩ := grd_ok h
        obtain ⟨z125, u25, h⟩ := ob1_ok h
        refine clb [48] rfl rfl (A_stratagemref30_Check ({ Bound := v59, Nogoods := v60 : GCertificate }) u25) ?_
        intro _
        refine dr ?_
        refine awp_seq ?_
        refine awp_region ?_
        intro _
        refine dr ?_
        refine awp_cond ?_
        intro _
        refine spl h (fun c26 h => ?_) (fun c26 h => ?_)
        · refine awp_seq ?_
          refine awp_region ?_
          intro _
          refine dr ?_
          refine awp_ret ?_
          intro _
          obtain ⟨rfl, rfl, rfl⟩ := inj3 h
          repeat (first | exact True.intro | refine ci ?_)
        · refine awp_skip ?_
          refine awp_seq ?_
          refine awp_region ?_
          intro _
          refine dr ?_
          refine awp_ret ?_
          intro _
          obtain ⟨rfl, rfl, rfl⟩ := inj3 h
          repeat (first | exact True.intro | refine ci ?_)
def M_stratagembase_Num (a0 : Er) : Option (Int) :=
  erM a0
   (some 0)
   (fun e1 => some e1)
set_option maxHeartbeats 16000000 in
set_option maxRecDepth 100000 in
theorem A_stratagembase_Num (a0 : Er) {r1 : Int} (h : M_stratagembase_Num a0 = some r1) : ACall cx 12 [eA a0] (.c (.int .i64 r1)) := by
  refine acall_of Tryd.func12 rfl (by decide) rfl (Nat.le_of_ble_eq_true rfl) ?_
  intro _
  unfold M_stratagembase_Num at h
  refine awp_seq ?_
  refine awp_region ?_
  intro _
  refine dr ?_
  refine awp_seq ?_
  refine awp_seq ?_
  rcases a0 with _ | e1
  · replace h := erM_nil h
    refine awp_region ?_
    intro _
    refine dr ?_
    refine awp_cond ?_
    intro _
    refine litT ?_
    refine awp_seq ?_
    refine awp_region ?_
    intro _
    refine dr ?_
    refine awp_ret ?_
    intro _
    obtain rfl := inj1 h
    repeat (first | exact True.intro | refine ci ?_)
  · replace h := erM_no h
    refine awp_region ?_
    intro _
    refine dr ?_
    refine awp_cond ?_
    intro _
    refine litF ?_
    refine awp_skip ?_
    refine awp_seq ?_
    refine awp_seq ?_
    refine awp_region ?_
    intro _
    refine ⟨_, lf_assert rfl (Nat.le_of_ble_eq_true rfl) rfl asErrno, ?_⟩
    intro _
    refine dr ?_
    refine awp_seq ?_
    refine awp_region ?_
    intro _
    refine dr ?_
    refine awp_cond ?_
    intro _
    refine litT ?_
    refine awp_seq ?_
    refine awp_region ?_
    intro _
    refine dr ?_
    refine awp_ret ?_
    intro _
    obtain rfl := inj1 h
    repeat (first | exact True.intro | refine ci ?_)
def M_stratagemlaw30_CertificateParses (a0 : ByteArray) : Option (Bool) :=
  ob1 (sel (decide ((a0.size : Int) > 3000))
    (ob1 (M_awake) (fun z8 =>
      some (.inr z8)))
    (ob1 (M_awake) (fun z6 =>
      sel (!z6)
       (ob1 (M_awake) (fun z7 =>
         some (.inr z7)))
       (some (.inl ())))) : Option (Unit ⊕ Bool))
   (osum
   (fun _ => ob3 (M_certificate_Parse a0) (fun z9 z10 z11 =>
      ob3 (M_stratagemref30_Parse a0) (fun z12 z13 z14 =>
       ob1 (M_stratagembase_Num z11) (fun z15 =>
        sel (z15 == z14)
         (sel (z10 == z13)
           (ob1 (M_stratagemlaw30_Same z9 z12) (fun z16 =>
             some z16))
           (some false))
         (some false)))))
   (fun r4 => some r4))
set_option maxHeartbeats 16000000 in
set_option maxRecDepth 100000 in
theorem A_stratagemlaw30_CertificateParses (a0 : ByteArray) {r1 : Bool} (h : M_stratagemlaw30_CertificateParses a0 = some r1) : ACall cx 9 [.c (.string a0)] (.c (.bool r1)) := by
  refine acall_of Tryd.func9 rfl (by decide) rfl (Nat.le_of_ble_eq_true rfl) ?_
  intro _
  unfold M_stratagemlaw30_CertificateParses at h
  refine awp_seq ?_
  refine awp_region ?_
  intro _
  refine dr ?_
  obtain ⟨o1, h, hK2⟩ := ob1_ok h
  refine awp_cut (α := Unit) (fun _ => mkS 43 [(0, .c (.string a0))] []) (fun v => o1 = (.inl v)) ?_ ?_
  · refine awp_seq ?_
    refine awp_region ?_
    intro _
    refine spf h (fun c3 h => ?_) (fun c3 h => ?_)
    · intro _
      obtain ⟨z6, u4, h⟩ := ob1_ok h
      refine cl rfl (A_awake u4) ?_
      intro _
      refine dr ?_
      refine awp_cond ?_
      intro _
      refine spl h (fun c5 h => ?_) (fun c5 h => ?_)
      · refine awp_seq ?_
        refine awp_region ?_
        intro _
        obtain ⟨z7, u6, h⟩ := ob1_ok h
        refine cl rfl (A_awake u6) ?_
        intro _
        refine dr ?_
        refine awp_ret ?_
        have j7 := Option.some.inj h
        subst j7
        replace h := (osum_r hK2)
        intro _
        obtain rfl := inj1 h
        repeat (first | exact True.intro | refine ci ?_)
      · refine awp_skip ?_
        refine ⟨(), (Option.some.inj h).symm, ?_⟩
        repeat (first | exact True.intro | refine ci ?_)
    · intro _
      refine dr ?_
      refine awp_cond ?_
      intro _
      refine litT ?_
      refine awp_seq ?_
      refine awp_region ?_
      intro _
      obtain ⟨z8, u8, h⟩ := ob1_ok h
      refine cl rfl (A_awake u8) ?_
      intro _
      refine dr ?_
      refine awp_ret ?_
      have j9 := Option.some.inj h
      subst j9
      replace h := (osum_r hK2)
      intro _
      obtain rfl := inj1 h
      repeat (first | exact True.intro | refine ci ?_)
  · rintro _ ho
    have ho := ho.symm
    subst ho
    intro _
    replace h := (osum_l hK2)
    refine awp_seq ?_
    refine awp_region ?_
    intro _
    obtain ⟨z9, z10, z11, u10, h⟩ := ob3_ok h
    refine cl rfl (A_certificate_Parse a0 u10) ?_
    intro _
    refine dr ?_
    refine awp_seq ?_
    refine awp_region ?_
    intro _
    obtain ⟨z12, z13, z14, u11, h⟩ := ob3_ok h
    refine cl rfl (A_stratagemref30_Parse a0 u11) ?_
    intro _
    refine dr ?_
    refine awp_seq ?_
    refine awp_region ?_
    intro _
    obtain ⟨z15, u12, h⟩ := ob1_ok h
    refine cl rfl (A_stratagembase_Num z11 u12) ?_
    intro _
    refine spl h (fun c13 h => ?_) (fun c13 h => ?_)
    · intro _
      refine spl h (fun c14 h => ?_) (fun c14 h => ?_)
      · intro _
        obtain ⟨z16, u15, h⟩ := ob1_ok h
        refine cl rfl (A_stratagemlaw30_Same z9 z12 u15) ?_
        intro _
        refine dr ?_
        refine awp_ret ?_
        intro _
        obtain rfl := inj1 h
        repeat (first | exact True.intro | refine ci ?_)
      · intro _
        refine dr ?_
        refine awp_ret ?_
        intro _
        obtain rfl := inj1 h
        repeat (first | exact True.intro | refine ci ?_)
    · intro _
      refine dr ?_
      refine awp_ret ?_
      intro _
      obtain rfl := inj1 h
      repeat (first | exact True.intro | refine ci ?_)
def M_stratagemlaw30_CertificateReturns (a0 : GCertificate) (a1 : ByteArray) : Option (Bool) :=
  ob1 (ob1 (M_stratagemlaw30_large a0) (fun z8 =>
    sel z8
     (ob1 (M_awake) (fun z12 =>
       some (.inr z12)))
     (sel (decide ((a1.size : Int) > 3000))
       (ob1 (M_awake) (fun z11 =>
         some (.inr z11)))
       (ob1 (M_awake) (fun z9 =>
         sel (!z9)
          (ob1 (M_awake) (fun z10 =>
            some (.inr z10)))
          (some (.inl ())))))) : Option (Unit ⊕ Bool))
   (osum
   (fun _ => ob2 (M_certificate_Format a0) (fun z13 z14 =>
      ob1 (erM z14
        (ob3 (M_certificate_Parse z13) (fun z24 z25 z26 =>
          erM z26
           (sel (z25 != 0)
             (some (.inr false))
             (ob1 (M_stratagemlaw30_Same z24 a0) (fun z28 =>
               sel (!z28)
                (some (.inr false))
                (some (.inl ())))))
           (fun _ => some (.inr false))))
        (fun _ => some (.inl ())) : Option (Unit ⊕ Bool))
       (osum
       (fun _ => ob3 (M_certificate_Parse a1) (fun z29 _ z31 =>
          erM z31
           (ob2 (M_certificate_Format z29) (fun z33 z34 =>
             erM z34
              (some (z33.toList == a1.toList))
              (fun _ => some false)))
           (fun _ => some true)))
       (fun r21 => some r21))))
   (fun r6 => some r6))
set_option maxHeartbeats 16000000 in
set_option maxRecDepth 100000 in
theorem A_stratagemlaw30_CertificateReturns (a0 : GCertificate) (a1 : ByteArray) {r1 : Bool} (h : M_stratagemlaw30_CertificateReturns a0 a1 = some r1) : ACall cx 10 [.agg [.c (.int .i64 a0.Bound), .sl 2 (a0.Nogoods.map cN)], .c (.string a1)] (.c (.bool r1)) := by
  refine acall_of Tryd.func10 rfl (by decide) rfl (Nat.le_of_ble_eq_true rfl) ?_
  intro _
  unfold M_stratagemlaw30_CertificateReturns at h
  refine awp_seq ?_
  refine awp_region ?_
  intro _
  refine dr ?_
  obtain ⟨o1, h, hK2⟩ := ob1_ok h
  refine awp_cut (α := Unit) (fun _ => mkS 69 [(1, .c (.string a1)), (2, .ptr 2 0 0 0)] [(2, ⟨25, 2, true, [[.c (.int .i64 a0.Bound), .sl 2 (a0.Nogoods.map cN)]]⟩)]) (fun v => o1 = (.inl v)) ?_ ?_
  · refine awp_seq ?_
    refine awp_region ?_
    intro _
    obtain ⟨z8, u3, h⟩ := ob1_ok h
    refine cl rfl (A_stratagemlaw30_large a0 u3) ?_
    intro _
    refine spf h (fun c4 h => ?_) (fun c4 h => ?_)
    · intro _
      refine spf h (fun c5 h => ?_) (fun c5 h => ?_)
      · intro _
        obtain ⟨z9, u6, h⟩ := ob1_ok h
        refine cl rfl (A_awake u6) ?_
        intro _
        refine dr ?_
        refine awp_cond ?_
        intro _
        refine spl h (fun c7 h => ?_) (fun c7 h => ?_)
        · refine awp_seq ?_
          refine awp_region ?_
          intro _
          obtain ⟨z10, u8, h⟩ := ob1_ok h
          refine cl rfl (A_awake u8) ?_
          intro _
          refine dr ?_
          refine awp_ret ?_
          have j9 := Option.some.inj h
          subst j9
          replace h := (osum_r hK2)
          intro _
          obtain rfl := inj1 h
          repeat (first | exact True.intro | refine ci ?_)
        · refine awp_skip ?_
          refine ⟨(), (Option.some.inj h).symm, ?_⟩
          repeat (first | exact True.intro | refine ci ?_)
      · intro _
        refine dr ?_
        refine awp_cond ?_
        intro _
        refine litT ?_
        refine awp_seq ?_
        refine awp_region ?_
        intro _
        obtain ⟨z11, u10, h⟩ := ob1_ok h
        refine cl rfl (A_awake u10) ?_
        intro _
        refine dr ?_
        refine awp_ret ?_
        have j11 := Option.some.inj h
        subst j11
        replace h := (osum_r hK2)
        intro _
        obtain rfl := inj1 h
        repeat (first | exact True.intro | refine ci ?_)
    · intro _
      refine dr ?_
      refine awp_cond ?_
      intro _
      refine litT ?_
      refine awp_seq ?_
      refine awp_region ?_
      intro _
      obtain ⟨z12, u12, h⟩ := ob1_ok h
      refine cl rfl (A_awake u12) ?_
      intro _
      refine dr ?_
      refine awp_ret ?_
      have j13 := Option.some.inj h
      subst j13
      replace h := (osum_r hK2)
      intro _
      obtain rfl := inj1 h
      repeat (first | exact True.intro | refine ci ?_)
  · rintro _ ho
    have ho := ho.symm
    subst ho
    intro _
    replace h := (osum_l hK2)
    refine awp_seq ?_
    refine awp_region ?_
    intro _
    obtain ⟨z13, z14, u14, h⟩ := ob2_ok h
    refine cl rfl (A_certificate_Format a0 u14) ?_
    intro _
    refine dr ?_
    obtain ⟨o15, h, hK16⟩ := ob1_ok h
    refine awp_cut (α := Unit) (fun _ => mkS 69 [(1, .c (.string a1))] []) (fun v => o15 = (.inl v)) ?_ ?_
    · refine awp_seq ?_
      rcases z14 with _ | e23
      · replace h := erM_nil h
        refine awp_region ?_
        intro _
        refine dr ?_
        refine awp_cond ?_
        intro _
        refine litT ?_
        refine awp_seq ?_
        refine awp_region ?_
        intro _
        obtain ⟨z24, z25, z26, u17, h⟩ := ob3_ok h
        refine cl rfl (A_certificate_Parse z13 u17) ?_
        intro _
        refine dr ?_
        refine awp_seq ?_
        rcases z26 with _ | e27
        · replace h := erM_nil h
          refine awp_region ?_
          intro _
          refine litFf ?_
          intro _
          refine spf h (fun c18 h => ?_) (fun c18 h => ?_)
          · intro _
            obtain ⟨z28, u19, h⟩ := ob1_ok h
            refine cl rfl (A_stratagemlaw30_Same z24 a0 u19) ?_
            intro _
            refine dr ?_
            refine awp_cond ?_
            intro _
            refine spl h (fun c20 h => ?_) (fun c20 h => ?_)
            · refine awp_seq ?_
              refine awp_region ?_
              intro _
              refine dr ?_
              refine awp_ret ?_
              have j21 := Option.some.inj h
              subst j21
              replace h := (osum_r hK16)
              intro _
              obtain rfl := inj1 h
              repeat (first | exact True.intro | refine ci ?_)
            · refine awp_skip ?_
              refine ⟨(), (Option.some.inj h).symm, ?_⟩
              repeat (first | exact True.intro | refine ci ?_)
          · intro _
            refine dr ?_
            refine awp_cond ?_
            intro _
            refine litT ?_
            refine awp_seq ?_
            refine awp_region ?_
            intro _
            refine dr ?_
            refine awp_ret ?_
            have j22 := Option.some.inj h
            subst j22
            replace h := (osum_r hK16)
            intro _
            obtain rfl := inj1 h
            repeat (first | exact True.intro | refine ci ?_)
        · replace h := erM_no h
          refine awp_region ?_
          intro _
          refine litTf ?_
          intro _
          refine dr ?_
          refine awp_cond ?_
          intro _
          refine litT ?_
          refine awp_seq ?_
          refine awp_region ?_
          intro _
          refine dr ?_
          refine awp_ret ?_
          have j23 := Option.some.inj h
          subst j23
          replace h := (osum_r hK16)
          intro _
          obtain rfl := inj1 h
          repeat (first | exact True.intro | refine ci ?_)
      · replace h := erM_no h
        refine awp_region ?_
        intro _
        refine dr ?_
        refine awp_cond ?_
        intro _
        refine litF ?_
        refine awp_skip ?_
        refine ⟨(), (Option.some.inj h).symm, ?_⟩
        repeat (first | exact True.intro | refine ci ?_)
    · rintro _ ho
      have ho := ho.symm
      subst ho
      intro _
      replace h := (osum_l hK16)
      refine awp_seq ?_
      refine awp_region ?_
      intro _
      obtain ⟨z29, z30, z31, u24, h⟩ := ob3_ok h
      refine cl rfl (A_certificate_Parse a1 u24) ?_
      intro _
      refine dr ?_
      refine awp_seq ?_
      refine awp_seq ?_
      rcases z31 with _ | e32
      · replace h := erM_nil h
        refine awp_region ?_
        intro _
        refine dr ?_
        refine awp_cond ?_
        intro _
        refine litF ?_
        refine awp_skip ?_
        refine awp_seq ?_
        refine awp_region ?_
        intro _
        obtain ⟨z33, z34, u25, h⟩ := ob2_ok h
        refine cl rfl (A_certificate_Format z29 u25) ?_
        intro _
        refine dr ?_
        refine awp_seq ?_
        rcases z34 with _ | e35
        · replace h := erM_nil h
          refine awp_region ?_
          intro _
          refine litT ?_
          intro _
          refine dr ?_
          refine awp_ret ?_
          intro _
          obtain rfl := inj1 h
          repeat (first | exact True.intro | refine ci ?_)
        · replace h := erM_no h
          refine awp_region ?_
          intro _
          refine litF ?_
          intro _
          refine dr ?_
          refine awp_ret ?_
          intro _
          obtain rfl := inj1 h
          repeat (first | exact True.intro | refine ci ?_)
      · replace h := erM_no h
        refine awp_region ?_
        intro _
        refine dr ?_
        refine awp_cond ?_
        intro _
        refine litT ?_
        refine awp_seq ?_
        refine awp_region ?_
        intro _
        refine dr ?_
        refine awp_ret ?_
        intro _
        obtain rfl := inj1 h
        repeat (first | exact True.intro | refine ci ?_)
end Go.Proofs.YticdfbhbbapbdaaDoor.Am
/- Plain laws of texts: split at a byte, cut at a byte, words, and words for models. -/
namespace Go.Proofs.YticdfbhbbapbdaaDoor.Am
open Go.RowKit

/-- the bytes of a text -/
abbrev bl (s : ByteArray) : List UInt8 := s.data.toList
def ofB (l : List UInt8) : ByteArray := ⟨l.toArray⟩
theorem bl_ofB (l : List UInt8) : bl (ofB l) = l := by simp [bl, ofB]
theorem ofB_bl (s : ByteArray) : ofB (bl s) = s := by obtain ⟨⟨l⟩⟩ := s; rfl
theorem bl_inj {s t : ByteArray} (h : bl s = bl t) : s = t := by rw [← ofB_bl s, ← ofB_bl t, h]
theorem bl_len (s : ByteArray) : (bl s).length = s.size := (Lib.size_eq s).symm
theorem toList_bl (s : ByteArray) : s.toList = bl s := ByteArray.toList_eq s
theorem bl_extract (s : ByteArray) (a b : Nat) : bl (s.extract a b) = ((bl s).drop a).take (b - a) := by rw [← toList_bl, Lib.extract_toList]
theorem bl_append (s t : ByteArray) : bl (s ++ t) = bl s ++ bl t := by
  show (s ++ t).data.toList = _
  simp
theorem bys_bl (s : ByteArray) : bys s = (bl s).map (fun c => (c.toNat : Int)) := rfl
theorem byt_bl (s : ByteArray) (n : Nat) (h : n < s.size) : byt s (n : Int) = (((bl s)[n]'(by rw [bl_len]; exact h)).toNat : Int) := by
  show ((s.data.getD ((n : Int)).toNat 0).toNat : Int) = _
  have h2 : n < s.data.size := h
  simp only [Int.toNat_natCast, Array.getD_eq_getD_getElem?, Array.getElem?_eq_getElem h2]
  simp

/-- split at a byte -/
def splitL (c : UInt8) : List UInt8 → List (List UInt8)
  | [] => [[]]
  | x :: r => if x = c then [] :: splitL c r else (x :: (splitL c r).headD []) :: (splitL c r).tail
theorem splitL_ne (c : UInt8) (l : List UInt8) : splitL c l ≠ [] := by
  cases l with
  | nil => simp [splitL]
  | cons x r => rw [splitL]; split <;> simp
theorem splitL_cons_ne {c x : UInt8} {r h : List UInt8} {t : List (List UInt8)} (hx : x ≠ c) (hr : splitL c r = h :: t) : splitL c (x :: r) = (x :: h) :: t := by
  rw [splitL, if_neg hx, hr]; rfl
theorem splitL_free {c : UInt8} : ∀ {l : List UInt8}, c ∉ l → splitL c l = [l]
  | [], _ => rfl
  | x :: r, h => splitL_cons_ne (fun e => h (by simp [e])) (splitL_free (fun hr => h (by simp [hr])))
theorem splitL_app {c : UInt8} : ∀ {a : List UInt8} {r : List UInt8}, c ∉ a → splitL c (a ++ c :: r) = a :: splitL c r
  | [], r, _ => by rw [List.nil_append, splitL, if_pos rfl]
  | x :: a, r, h => by
    rw [List.cons_append]
    exact splitL_cons_ne (fun e => h (by simp [e])) (splitL_app (fun hr => h (by simp [hr])))
/-- a first piece and what comes behind it -/
theorem splitL_cases (c : UInt8) (l : List UInt8) : (c ∉ l ∧ splitL c l = [l]) ∨ ∃ a r, c ∉ a ∧ l = a ++ c :: r ∧ splitL c l = a :: splitL c r := by
  by_cases h : c ∈ l
  · obtain ⟨a, r, e, ha⟩ := List.append_of_mem h |> fun ⟨a, r, e⟩ => (List.eq_append_cons_of_mem h)
    exact .inr ⟨a, r, ha, e, by rw [e]; exact splitL_app ha⟩
  · exact .inl ⟨h, splitL_free h⟩
theorem splitL_free_mem {c : UInt8} : ∀ {l : List UInt8} {w : List UInt8}, w ∈ splitL c l → c ∉ w := by
  intro l
  induction l with
  | nil => intro w hw; simp [splitL] at hw; subst hw; simp
  | cons x r ih =>
    intro w hw
    rw [splitL] at hw
    split at hw
    · rcases List.mem_cons.1 hw with rfl | hw
      · simp
      · exact ih hw
    · rename_i hx
      cases hs : splitL c r with
      | nil => exact absurd hs (splitL_ne c r)
      | cons h t =>
        rw [hs] at hw ih
        simp only [List.headD_cons, List.tail_cons, List.mem_cons] at hw
        rcases hw with rfl | hw
        · intro hc
          rcases List.mem_cons.1 hc with e | hc
          · exact hx e.symm
          · exact ih (by simp) hc
        · exact ih (by simp [hw])
theorem splitL_len_le (c : UInt8) (l : List UInt8) : (splitL c l).length ≤ l.length + 1 := by
  induction l with
  | nil => simp [splitL]
  | cons x r ih =>
    rw [splitL]
    split
    · simp; omega
    · cases hs : splitL c r with
      | nil => simp
      | cons h t => rw [hs] at ih; simp at ih ⊢; omega
theorem splitL_total (c : UInt8) (l : List UInt8) : ((splitL c l).map List.length).sum + (splitL c l).length = l.length + 1 := by
  induction l with
  | nil => simp [splitL]
  | cons x r ih =>
    rw [splitL]
    split
    · simp; omega
    · cases hs : splitL c r with
      | nil => exact absurd hs (splitL_ne c r)
      | cons h t => rw [hs] at ih; simp at ih ⊢; omega
theorem le_sum_of {n : Nat} : ∀ {l : List Nat}, n ∈ l → n ≤ l.sum
  | x :: l, h => by
    rcases List.mem_cons.1 h with rfl | h
    · simp
    · have := le_sum_of h
      simp
      omega
theorem splitL_mem_len {c : UInt8} {l w : List UInt8} (h : w ∈ splitL c l) : w.length ≤ l.length := by
  have h1 := splitL_total c l
  have h2 : w.length ≤ ((splitL c l).map List.length).sum := le_sum_of (List.mem_map.2 ⟨w, h, rfl⟩)
  have h3 : 1 ≤ (splitL c l).length := by cases hs : splitL c l with
    | nil => exact absurd hs (splitL_ne c l)
    | cons a b => simp
  omega

theorem index_one_none {c : UInt8} {l : List UInt8} (h : c ∉ l) : Lib.index l [c] = -1 := by
  induction l with
  | nil => rfl
  | cons x r ih =>
    have hx : c ≠ x := fun e => h (by simp [e])
    rw [Lib.index]
    simp [List.isPrefixOf, hx, ih (fun hr => h (by simp [hr]))]
theorem index_one_app {c : UInt8} {a r : List UInt8} (h : c ∉ a) : Lib.index (a ++ c :: r) [c] = a.length := by
  induction a with
  | nil => rw [List.nil_append, Lib.index]; simp [List.isPrefixOf]
  | cons x a ih =>
    have hx : c ≠ x := fun e => h (by simp [e])
    have ih' := ih (fun hr => h (by simp [hr]))
    rw [List.cons_append, Lib.index, ih']
    have : ¬ ((a.length : Int) = -1) := by omega
    simp [List.isPrefixOf, hx, this]
/-- strings.Split at one byte -/
theorem split_eq (c : UInt8) : ∀ (n : Nat) (s : ByteArray), s.size ≤ n → Lib.splitB ⟨#[c]⟩ 0 (Lib.countB s ⟨#[c]⟩) s = (splitL c (bl s)).map ofB := by
  intro n
  induction n with
  | zero =>
    intro s hs
    have h0 : bl s = [] := List.length_eq_zero_iff.1 (by rw [bl_len]; omega)
    have hi : Lib.indexB s ⟨#[c]⟩ = -1 := by show Lib.index (bl s) [c] = -1; rw [h0]; rfl
    rw [Lib.splitB_miss _ _ _ _ hi, h0]
    simp [splitL, ← h0, ofB_bl]
  | succ n ih =>
    intro s hs
    rcases splitL_cases c (bl s) with ⟨h1, h2⟩ | ⟨a, r, h1, h2, h3⟩
    · have hi : Lib.indexB s ⟨#[c]⟩ = -1 := index_one_none h1
      rw [Lib.splitB_miss _ _ _ _ hi, h2]
      simp [ofB_bl]
    · have hi : Lib.indexB s ⟨#[c]⟩ = (a.length : Nat) := by show Lib.index (bl s) [c] = _; rw [h2]; exact index_one_app h1
      have hlen : s.size = a.length + 1 + r.length := by rw [← bl_len, h2]; simp; omega
      have hone : (⟨#[c]⟩ : ByteArray).size = 1 := rfl
      have hx : bl (s.extract (a.length + 1) s.size) = r := by
        rw [bl_extract, h2, show a.length + 1 = (a ++ [c]).length from by simp, show a ++ c :: r = (a ++ [c]) ++ r from by simp, List.drop_left]
        apply List.take_of_length_le
        simp; omega
      rw [Lib.countB_hit s _ a.length (by rw [hone]; exact Nat.le_refl 1) hi, Nat.add_comm 1, Lib.splitB_hit _ _ _ _ _ hi, hone, ih _ (by rw [← bl_len, hx]; omega), hx, h3]
      simp only [List.map_cons, Nat.add_zero]
      congr 1
      apply bl_inj
      rw [bl_extract, bl_ofB, h2]
      simp
/-- cut at one byte -/
theorem cut_none {c : UInt8} {l : List UInt8} (h : c ∉ l) : Lib.cut l [c] = (l, [], false) := by
  rw [Lib.cut, if_neg (by rw [index_one_none h]; decide)]
theorem cut_app {c : UInt8} {a r : List UInt8} (h : c ∉ a) : Lib.cut (a ++ c :: r) [c] = (a, r, true) := by
  rw [Lib.cut, index_one_app h, if_pos (by omega)]
  simp

section
variable {α β γ δ : Type}
theorem sel_dec {p : Prop} [Decidable p] {x y : Option α} : sel (decide p) x y = if p then x else y := by
  unfold sel
  by_cases h : p <;> simp [h]
theorem sel_not {b : Bool} {x y : Option α} : sel (!b) x y = sel b y x := by cases b <;> rfl
theorem sel_tt {x y : Option α} : sel true x y = x := rfl
theorem sel_ff {x y : Option α} : sel false x y = y := rfl
theorem grd_t {p : Prop} [Decidable p] {x : Option α} (h : p) : grd p x = x := if_pos h
theorem ixn_at {l : List α} {n : Nat} {y : α} {k : α → Option β} (h : l[n]? = some y) : ixn l n k = k y := by rw [ixn, h]
theorem ix_at {l : List α} {n : Nat} {y : α} {k : α → Option β} (h : l[n]? = some y) : ix l (n : Int) k = k y := by
  rw [ix, Int.toNat_natCast, ixn_at h, grd_t (Int.natCast_nonneg n)]
theorem ob1_some {a : α} {k : α → Option β} : ob1 (some a) k = k a := rfl
theorem ob2_some {a : α} {b : β} {k : α → β → Option γ} : ob2 (some (a, b)) k = k a b := rfl
theorem ob3_some {a : α} {b : β} {c : γ} {k : α → β → γ → Option δ} : ob3 (some (a, b, c)) k = k a b c := rfl
theorem osum_inl {f : α → Option γ} {g : β → Option γ} {a : α} : osum f g (.inl a) = f a := rfl
theorem osum_inr {f : α → Option γ} {g : β → Option γ} {b : β} : osum f g (.inr b) = g b := rfl
theorem w64 {z : Int} (h1 : -9223372036854775808 ≤ z) (h2 : z ≤ 9223372036854775807) : IntKind.i64.wrap z = z := wrap_eq h1 h2
theorem w64s {n : Nat} (h : n < 9223372036854775807) : IntKind.i64.wrap ((n : Int) + 1) = ((n + 1 : Nat) : Int) := by rw [w64 (by omega) (by omega)]; rfl
theorem beq_int (a b : Int) : (a == b) = decide (a = b) := by by_cases h : a = b <;> simp [h]
theorem drop_at {l : List α} {n : Nat} (h : n < l.length) : ∃ y, l[n]? = some y ∧ l.drop n = y :: l.drop (n + 1) := ⟨l[n], List.getElem?_eq_getElem h, List.drop_eq_getElem_cons h⟩
end
end Go.Proofs.YticdfbhbbapbdaaDoor.Am
/- Plain law of numbers in the texts of chapter 30. -/
namespace Go.Proofs.YticdfbhbbapbdaaDoor.Am
open Go.RowKit
def isDig (c : UInt8) : Bool := decide (48 ≤ c.toNat) && decide (c.toNat ≤ 57)
/-- the value of digits, after a number -/
def numL : Int → List UInt8 → Option Int
  | n, [] => some n
  | n, c :: r => if isDig c then numL (10 * n + ((c.toNat : Int) - 48)) r else none
/-- the value of 1 to 13 digits without leading zeros -/
def numF (l : List UInt8) : Option Int := if l.length < 1 ∨ l.length > 13 ∨ (l.length > 1 ∧ l.head? = some 48) then none else numL 0 l
theorem numL_dig {l : List UInt8} : ∀ {n m : Int}, numL n l = some m → ∀ c ∈ l, isDig c = true := by
  induction l with
  | nil => intro n m _ c hc; cases hc
  | cons x r ih =>
    intro n m h c hc
    rw [numL] at h
    split at h
    · rcases List.mem_cons.1 hc with rfl | hc
      · assumption
      · exact ih h c hc
    · cases h
theorem numF_dig {l : List UInt8} {m : Int} (h : numF l = some m) : ∀ c ∈ l, isDig c = true := by
  unfold numF at h
  split at h
  · cases h
  · exact numL_dig h
theorem numL_bound {l : List UInt8} : ∀ {n m : Int} {k : Nat}, 0 ≤ n → n < 10 ^ k → numL n l = some m → 0 ≤ m ∧ m < 10 ^ (k + l.length) := by
  induction l with
  | nil => intro n m k h0 h1 h; simp [numL] at h; subst h; exact ⟨h0, by simpa using h1⟩
  | cons x r ih =>
    intro n m k h0 h1 h
    rw [numL] at h
    split at h
    · rename_i hd
      simp [isDig] at hd
      have := ih (k := k + 1) (by omega) (by rw [Int.pow_succ]; omega) h
      rw [show k + (x :: r).length = k + 1 + r.length from by simp; omega]
      exact this
    · cases h
theorem pow10_le {i : Nat} (h : i ≤ 13) : (10 : Int) ^ i ≤ 10000000000000 := by
  have h1 : (10 : Nat) ^ i ≤ 10 ^ 13 := Nat.pow_le_pow_right (by omega) h
  have h2 : ((10 ^ i : Nat) : Int) ≤ ((10 ^ 13 : Nat) : Int) := by exact_mod_cast h1
  simpa using h2
theorem numF_bound {l : List UInt8} {m : Int} (h : numF l = some m) : 0 ≤ m ∧ m < 10000000000000 := by
  unfold numF at h
  split at h
  · cases h
  · rename_i hn
    have := numL_bound (k := 0) (Int.le_refl 0) (by decide) h
    have h2 := pow10_le (i := 0 + l.length) (by omega)
    omega
theorem wrap_dig {n c : Int} (h0 : 0 ≤ n) (h1 : n < 10000000000000) (h2 : 48 ≤ c) (h3 : c ≤ 57) : IntKind.i64.wrap (IntKind.i64.wrap (10 * n) + IntKind.i64.wrap (IntKind.u8.wrap (c - 48))) = 10 * n + (c - 48) := by
  have e : IntKind.u8.wrap (c - 48) = c - 48 := by rw [IntKind.wrap_u8]; omega
  rw [e, w64 (z := 10 * n) (by omega) (by omega), w64 (z := c - 48) (by omega) (by omega), w64 (by omega) (by omega)]
theorem number_loop (s : ByteArray) (hs : s.size ≤ 13) : ∀ (k n : Nat) (v : Int), n ≤ s.size → s.size < k + n → 0 ≤ v → v < 10 ^ n →
    M_certificate_number_L1 s k v (n : Int) = some (match numL v ((bl s).drop n) with | some m => (m, true) | none => (0, false)) := by
  intro k
  induction k with
  | zero => intro n v h1 h2; omega
  | succ k ih =>
    intro n v h1 h2 h3 h4
    rw [M_certificate_number_L1]
    simp only [sel_dec, List.length_map]
    have hbl : (bys s).length = s.size := by rw [bys_bl, List.length_map, bl_len]
    rw [hbl]
    by_cases hn : n < s.size
    · rw [if_pos (by omega)]
      obtain ⟨c, hc, hd⟩ := drop_at (l := bl s) (n := n) (by rw [bl_len]; exact hn)
      rw [ix_at (y := (c.toNat : Int)) (by rw [bys_bl, List.getElem?_map, hc]; rfl), hd, numL]
      have hp := pow10_le (i := n) (by omega)
      by_cases hdig : isDig c = true
      · simp [isDig] at hdig
        rw [if_neg (by omega), if_neg (by omega), if_pos (by simp [isDig]; omega), wrap_dig h3 (by omega) (by omega) (by omega), w64s (by omega)]
        exact ih (n + 1) _ hn (by omega) (by omega) (by rw [Int.pow_succ]; omega)
      · rw [if_neg hdig]
        simp [isDig] at hdig
        by_cases hlt : (c.toNat : Int) < 48
        · rw [if_pos hlt]
        · rw [if_neg hlt, if_pos (by omega)]
    · rw [if_neg (by omega), List.drop_eq_nil_of_le (by rw [bl_len]; omega), numL]
theorem number_eq (s : ByteArray) : M_certificate_number s = some (match numF (bl s) with | some m => (m, true) | none => (0, false)) := by
  rw [M_certificate_number]
  simp only [sel_dec, numF, bl_len]
  have hbl : (bys s).length = s.size := by rw [bys_bl, List.length_map, bl_len]
  by_cases h1 : (s.size : Int) < 1
  · rw [if_pos h1, ob1_some, osum_inr, if_pos (by omega)]
  · rw [if_neg h1]
    by_cases h2 : (s.size : Int) > 13
    · rw [if_pos h2, ob1_some, osum_inr, if_pos (by omega)]
    · rw [if_neg h2]
      have hz : byt s 0 = (((bl s)[0]'(by rw [bl_len]; omega)).toNat : Int) := byt_bl s 0 (by omega)
      have hh : (bl s).head? = some ((bl s)[0]'(by rw [bl_len]; omega)) := by rw [List.head?_eq_getElem?, List.getElem?_eq_getElem]
      have hgo : M_certificate_number_L1 s (((((bys s).map c_u8).length : Int)).toNat + 1) 0 0 = some (match numL 0 (bl s) with | some m => (m, true) | none => (0, false)) := by
        have := number_loop s (by omega) (s.size + 1) 0 0 (by omega) (by omega) (by omega) (by decide)
        rw [List.length_map, hbl, Int.toNat_natCast]
        exact this
      by_cases h3 : (s.size : Int) > 1
      · rw [if_pos h3, grd_t (by omega)]
        by_cases h4 : byt s 0 = 48
        · have : (bl s)[0]'(by rw [bl_len]; omega) = 48 := by
            have : ((bl s)[0]'(by rw [bl_len]; omega)).toNat = 48 := by rw [hz] at h4; omega
            exact UInt8.toNat_inj.1 this
          rw [h4, if_pos (by rw [hh, this]; exact .inr (.inr ⟨by omega, rfl⟩))]
          rfl
        · rw [show (byt s 0 == 48) = false from by simpa using h4, sel_ff, ob1_some, osum_inl, grd_t (by omega), hgo, if_neg]
          rintro (h | h | ⟨_, h⟩)
          · omega
          · omega
          · rw [hh] at h
            injection h with h
            rw [hz, h] at h4
            exact h4 rfl
      · rw [if_neg h3, ob1_some, osum_inl, grd_t (by omega), hgo, if_neg (by omega)]
theorem refnum_loop (s : ByteArray) (hs : s.size < 4294967296) : ∀ (k n : Nat) (v : Int), n ≤ s.size → n ≤ 13 → s.size < k + n → 0 ≤ v → v < 10 ^ n →
    M_stratagemref30_number_L1 s k v (n : Int) = some (if s.size ≤ 13 then (match numL v ((bl s).drop n) with | some m => .inl m | none => .inr (0, false)) else .inr (0, false)) := by
  intro k
  induction k with
  | zero => intro n v h1 _ h2; omega
  | succ k ih =>
    intro n v h1 h13 h2 h3 h4
    rw [M_stratagemref30_number_L1]
    simp only [sel_dec, beq_int]
    by_cases hn : n < s.size
    · rw [if_pos (by omega)]
      obtain ⟨c, hc, hd⟩ := drop_at (l := bl s) (n := n) (by rw [bl_len]; exact hn)
      have hb : byt s (n : Int) = (c.toNat : Int) := by
        rw [byt_bl s n hn]
        rw [List.getElem?_eq_getElem (by rw [bl_len]; exact hn)] at hc
        injection hc with hc
        rw [hc]
      rw [hb, hd, numL]
      have g1 : (0 : Int) ≤ (n : Int) := by omega
      have g2 : (n : Int) < (s.size : Int) := by omega
      simp only [grd_t g1, grd_t g2]
      have hp := pow10_le (i := n) (by omega)
      by_cases hdig : isDig c = true
      · simp [isDig] at hdig
        rw [if_neg (by omega), if_neg (by omega)]
        by_cases h13' : n = 13
        · rw [if_pos (by omega), if_neg (show ¬ s.size ≤ 13 by omega)]
        · rw [if_neg (by omega), if_pos (show isDig c = true by simp [isDig]; omega), wrap_dig h3 (by omega) (by omega) (by omega), w64s (by omega)]
          exact ih (n + 1) _ hn (by omega) (by omega) (by omega) (by rw [Int.pow_succ]; omega)
      · have hdig' := hdig
        simp [isDig] at hdig
        rw [if_neg hdig']
        have e : (if s.size ≤ 13 then (match (none : Option Int) with | some m => (Sum.inl m : Int ⊕ (Int × Bool)) | none => .inr (0, false)) else .inr (0, false)) = .inr (0, false) := by split <;> rfl
        rw [e]
        by_cases hlt : (c.toNat : Int) < 48
        · rw [if_pos hlt]
        · rw [if_neg hlt, if_pos (by omega)]
    · rw [if_neg (by omega), List.drop_eq_nil_of_le (by rw [bl_len]; omega), numL, if_pos (by omega)]
theorem numL_total {l : List UInt8} : ∀ {n : Int}, (∀ c ∈ l, isDig c = true) → ∃ m, numL n l = some m := by
  induction l with
  | nil => intro n _; exact ⟨n, rfl⟩
  | cons x r ih =>
    intro n h
    rw [numL, if_pos (h x (by simp))]
    exact ih (fun c hc => h c (by simp [hc]))
theorem refnumber_eq (s : ByteArray) (hs : s.size < 4294967296) : ∃ n, M_stratagemref30_number s = some (n, (numF (bl s)).isSome) ∧ ∀ m, numF (bl s) = some m → n = m := by
  rw [M_stratagemref30_number, Int.toNat_natCast]
  have hl := refnum_loop s hs (s.size + 1) 0 0 (by omega) (by omega) (by omega) (by omega) (by decide)
  rw [show ((0 : Nat) : Int) = 0 from rfl] at hl
  rw [hl, ob1_some]
  by_cases h13 : s.size ≤ 13
  · rw [if_pos h13, List.drop_zero]
    cases hn : numL 0 (bl s) with
    | none =>
      refine ⟨0, ?_, ?_⟩
      · have : numF (bl s) = none := by unfold numF; split <;> first | rfl | exact hn
        rw [this]
        rfl
      · intro m hm
        unfold numF at hm
        split at hm
        · cases hm
        · rw [hn] at hm; cases hm
    | some v =>
      refine ⟨v, ?_, ?_⟩
      · simp only [osum_inl]
        rw [toList_bl]
        by_cases h0 : s.size = 0
        · have hb : bl s = [] := List.length_eq_zero_iff.1 (by rw [bl_len]; exact h0)
          rw [hb]
          simp [numF, toList_bl, sel]
        · have hb : (bl s == (⟨#[]⟩ : ByteArray).toList) = false := by
            rw [toList_bl]
            simp
            intro e
            have h2 : s.data.size = 0 := by rw [e]; rfl
            exact h0 h2
          rw [hb]
          have hz : byt s 0 = (((bl s)[0]'(by rw [bl_len]; omega)).toNat : Int) := byt_bl s 0 (by omega)
          have hh : (bl s).head? = some ((bl s)[0]'(by rw [bl_len]; omega)) := by rw [List.head?_eq_getElem?, List.getElem?_eq_getElem]
          have g : (0 : Int) < (s.size : Int) := by omega
          simp only [Bool.not_false, sel_tt, grd_t g]
          have hf : numF (bl s) = if (bl s).length > 1 ∧ (bl s).head? = some 48 then none else some v := by
            unfold numF
            rw [hn]
            have := bl_len s
            by_cases hc : (bl s).length > 1 ∧ (bl s).head? = some 48
            · rw [if_pos hc, if_pos (.inr (.inr hc))]
            · rw [if_neg hc, if_neg (by rintro (h | h | h); omega; omega; exact hc h)]
          rw [hf]
          by_cases h48 : byt s 0 = 48
          · have he : (bl s)[0]'(by rw [bl_len]; omega) = 48 := by
              have : ((bl s)[0]'(by rw [bl_len]; omega)).toNat = 48 := by rw [hz] at h48; omega
              exact UInt8.toNat_inj.1 this
            rw [show (byt s 0 != 48) = false from by simpa using h48, sel_ff, hh, he, bl_len]
            by_cases h1 : s.size = 1
            · rw [if_neg (by omega)]; simp [h1]
            · rw [if_pos ⟨by omega, rfl⟩]
              simp
              omega
          · rw [show (byt s 0 != 48) = true from by simpa using h48, sel_tt, if_neg]
            · rfl
            · rintro ⟨_, h⟩
              rw [hh] at h
              injection h with h
              rw [hz, h] at h48
              exact h48 rfl
      · intro m hm
        unfold numF at hm
        split at hm
        · cases hm
        · rw [hn] at hm; injection hm
  · rw [if_neg h13]
    have : numF (bl s) = none := by unfold numF; rw [if_pos (by rw [bl_len]; omega)]
    rw [this]
    exact ⟨0, rfl, fun m hm => by cases hm⟩
end Go.Proofs.YticdfbhbbapbdaaDoor.Am
/- Plain laws of words and lines (the reference's) in the texts of chapter 30. -/
namespace Go.Proofs.YticdfbhbbapbdaaDoor.Am
open Go.RowKit
/-- a piece under way and the pieces behind it -/
def joinW (w : ByteArray) (l : List (List UInt8)) : List ByteArray := (w ++ ofB (l.headD [])) :: l.tail.map ofB
theorem joinW_nil {l : List (List UInt8)} (h : l ≠ []) : joinW ⟨#[]⟩ l = l.map ofB := by
  cases l with
  | nil => exact absurd rfl h
  | cons a r =>
    show ((⟨#[]⟩ : ByteArray) ++ ofB a) :: r.map ofB = _
    rw [List.map_cons]
    congr 1
theorem joinW_hit (w : ByteArray) (c : UInt8) (r : List UInt8) : joinW w (splitL c (c :: r)) = w :: (splitL c r).map ofB := by
  rw [splitL, if_pos rfl]
  show (w ++ ofB []) :: _ = _
  congr 1
  apply bl_inj
  rw [bl_append, bl_ofB, List.append_nil]
theorem joinW_miss {w : ByteArray} {c x : UInt8} {r : List UInt8} (hx : x ≠ c) : joinW w (splitL c (x :: r)) = joinW (w ++ ofB [x]) (splitL c r) := by
  cases hs : splitL c r with
  | nil => exact absurd hs (splitL_ne c r)
  | cons h t =>
    rw [splitL_cons_ne hx hs]
    show (w ++ ofB (x :: h)) :: t.map ofB = (w ++ ofB [x] ++ ofB h) :: t.map ofB
    congr 1
    apply bl_inj
    simp only [bl_append, bl_ofB, List.append_assoc, List.cons_append, List.nil_append]
theorem byt_drop {s : ByteArray} {n : Nat} (hn : n < s.size) : ∃ c, (bl s).drop n = c :: (bl s).drop (n + 1) ∧ byt s (n : Int) = (c.toNat : Int) ∧ s.extract n (n + 1) = ofB [c] := by
  obtain ⟨c, hc, hd⟩ := drop_at (l := bl s) (n := n) (by rw [bl_len]; exact hn)
  refine ⟨c, hd, ?_, ?_⟩
  · rw [byt_bl s n hn]
    rw [List.getElem?_eq_getElem (by rw [bl_len]; exact hn)] at hc
    injection hc with hc
    rw [hc]
  · apply bl_inj
    rw [bl_extract, bl_ofB, hd, show n + 1 - n = 1 from by omega]
    rfl
theorem toNat_ne {c : UInt8} {k : Nat} (hk : k < 256) (h : (c.toNat : Int) ≠ k) : c ≠ UInt8.ofNat k := by
  intro e
  apply h
  rw [e]
  simp
  omega
theorem toNat_eq {c : UInt8} {k : Nat} (hk : k < 256) (h : (c.toNat : Int) = k) : c = UInt8.ofNat k := by
  apply UInt8.toNat_inj.1
  simp
  omega
theorem words_loop (s : ByteArray) (hs : s.size ≤ 65536) : ∀ (k n : Nat) (ws : List ByteArray) (w : ByteArray), n ≤ s.size → s.size < k + n → ws.length ≤ n → w.size ≤ n →
    M_stratagemref05_Words_L1 s k (n : Int) (ws ++ [w]) = some (ws ++ joinW w (splitL 32 ((bl s).drop n))) := by
  intro k
  induction k with
  | zero => intro n ws w h1 h2; omega
  | succ k ih =>
    intro n ws w h1 h2 h3 h4
    rw [M_stratagemref05_Words_L1]
    simp only [sel_dec, beq_int]
    by_cases hn : n < s.size
    · rw [if_pos (by omega)]
      obtain ⟨c, hd, hb, hx⟩ := byt_drop hn
      have g1 : (0 : Int) ≤ (n : Int) := by omega
      have g2 : (n : Int) < (s.size : Int) := by omega
      rw [hb, hd, grd_t g1, grd_t g2]
      by_cases hc : (c.toNat : Int) = 32
      · have hc' : c = 32 := toNat_eq (k := 32) (by decide) hc
        rw [if_pos hc, hc', joinW_hit, grd_t (by simp; omega), w64s (by omega), ih (n + 1) (ws ++ [w]) ⟨#[]⟩ hn (by omega) (by simp; omega) (by show 0 ≤ _; omega), joinW_nil (splitL_ne _ _)]
        simp
      · have hc' : c ≠ 32 := toNat_ne (k := 32) (by decide) hc
        rw [if_neg hc, joinW_miss hc']
        have hl : (ws ++ [w]).length = ws.length + 1 := by simp
        have e1 : IntKind.i64.wrap (((ws ++ [w]).length : Int) - 1) = ((ws.length : Nat) : Int) := by rw [hl, w64 (by omega) (by omega)]; omega
        have e2 : IntKind.i64.wrap ((n : Int) + 1) = ((n + 1 : Nat) : Int) := w64s (by omega)
        have hat : (ws ++ [w])[ws.length]? = some w := by simp
        simp only [e1, e2, Int.toNat_natCast]
        have q1 : (0 : Int) ≤ ((ws.length : Nat) : Int) := by omega
        have q2 : ((ws.length : Nat) : Int) < ((ws ++ [w]).length : Int) := by rw [hl]; omega
        have q3 : (0 : Int) ≤ ((n + 1 : Nat) : Int) := by omega
        have q4 : n ≤ n + 1 := by omega
        have q5 : n + 1 ≤ s.size := hn
        have q6 : w.size + (s.extract n (n + 1)).size ≤ 9223372036854775807 := by rw [ByteArray.size_extract]; omega
        rw [ixn_at hat, ixn_at hat, grd_t q1, grd_t q2, grd_t q3, grd_t q4, grd_t q5, grd_t q6]
        have hset : (ws ++ [w]).set ws.length (w ++ s.extract n (n + 1)) = ws ++ [w ++ ofB [c]] := by rw [hx]; simp
        rw [hset]
        exact ih (n + 1) ws _ hn (by omega) (by omega) (by rw [ByteArray.size_append, ← hx, ByteArray.size_extract]; omega)
    · rw [if_neg (by omega), List.drop_eq_nil_of_le (by rw [bl_len]; omega), grd_t (by simp; omega)]
      congr 1
      congr 1
      show [w] = (w ++ ofB []) :: []
      congr 1
      apply bl_inj
      rw [bl_append, bl_ofB, List.append_nil]
theorem words_eq (s : ByteArray) (hs : s.size ≤ 65536) : M_stratagemref05_Words s = some ((splitL 32 (bl s)).map ofB) := by
  rw [M_stratagemref05_Words, Int.toNat_natCast]
  have := words_loop s hs (s.size + 1) 0 [] ⟨#[]⟩ (by omega) (by omega) (by simp) (by show 0 ≤ _; omega)
  rw [joinW_nil (splitL_ne _ _), List.drop_zero] at this
  exact this
theorem lines_loop (s : ByteArray) (hs : s.size ≤ 65536) : ∀ (k n : Nat) (ls : List ByteArray) (w : ByteArray), n ≤ s.size → s.size < k + n → ls.length ≤ n → w.size ≤ n →
    M_stratagemref05_Lines_L1 s k w (n : Int) ls = some (ls ++ (joinW w (splitL 10 ((bl s).drop n))).dropLast, bl ((joinW w (splitL 10 ((bl s).drop n))).getLastD ⟨#[]⟩) == []) := by
  intro k
  induction k with
  | zero => intro n ls w h1 h2; omega
  | succ k ih =>
    intro n ls w h1 h2 h3 h4
    rw [M_stratagemref05_Lines_L1]
    simp only [sel_dec, beq_int]
    by_cases hn : n < s.size
    · rw [if_pos (by omega)]
      obtain ⟨c, hd, hb, hx⟩ := byt_drop hn
      have g1 : (0 : Int) ≤ (n : Int) := by omega
      have g2 : (n : Int) < (s.size : Int) := by omega
      rw [hb, hd, grd_t g1, grd_t g2]
      by_cases hc : (c.toNat : Int) = 10
      · have hc' : c = 10 := toNat_eq (k := 10) (by decide) hc
        rw [if_pos hc, hc', joinW_hit, grd_t (by omega), w64s (by omega), ih (n + 1) (ls ++ [w]) ⟨#[]⟩ hn (by omega) (by simp; omega) (by show 0 ≤ _; omega), joinW_nil (splitL_ne _ _)]
        have hne : (splitL 10 (List.drop (n + 1) (bl s))).map ofB ≠ [] := by simp [splitL_ne]
        obtain ⟨a, r, hr⟩ := List.exists_cons_of_ne_nil hne
        rw [hr]
        simp [List.dropLast_cons_cons]
      · have hc' : c ≠ 10 := toNat_ne (k := 10) (by decide) hc
        rw [if_neg hc, joinW_miss hc']
        have e2 : IntKind.i64.wrap ((n : Int) + 1) = ((n + 1 : Nat) : Int) := w64s (by omega)
        simp only [e2, Int.toNat_natCast]
        have q3 : (0 : Int) ≤ ((n + 1 : Nat) : Int) := by omega
        have q4 : n ≤ n + 1 := by omega
        have q5 : n + 1 ≤ s.size := hn
        have q6 : w.size + (s.extract n (n + 1)).size ≤ 9223372036854775807 := by rw [ByteArray.size_extract]; omega
        rw [grd_t q3, grd_t q4, grd_t q5, grd_t q6, hx]
        exact ih (n + 1) ls _ hn (by omega) (by omega) (by rw [ByteArray.size_append, ← hx, ByteArray.size_extract]; omega)
    · rw [if_neg (by omega), List.drop_eq_nil_of_le (by rw [bl_len]; omega), grd_t (by omega)]
      have e : joinW w (splitL 10 []) = [w] := by
        show (w ++ ofB []) :: [] = _
        congr 1
        apply bl_inj
        rw [bl_append, bl_ofB, List.append_nil]
      rw [e, toList_bl, toList_bl]
      simp
theorem lines_eq (s : ByteArray) (hs : s.size ≤ 65536) : M_stratagemref05_Lines s = some (((splitL 10 (bl s)).map ofB).dropLast, (splitL 10 (bl s)).getLastD [] == []) := by
  rw [M_stratagemref05_Lines, Int.toNat_natCast]
  have := lines_loop s hs (s.size + 1) 0 [] ⟨#[]⟩ (by omega) (by omega) (by simp) (by show 0 ≤ _; omega)
  rw [joinW_nil (splitL_ne _ _), List.drop_zero] at this
  rw [show ((0 : Nat) : Int) = 0 from rfl] at this
  rw [this]
  have e : bl (((splitL 10 (bl s)).map ofB).getLastD ⟨#[]⟩) = (splitL 10 (bl s)).getLastD [] := by
    have hne := splitL_ne 10 (bl s)
    rw [List.getLastD_eq_getLast?, List.getLastD_eq_getLast?, List.getLast?_map]
    cases h : (splitL 10 (bl s)).getLast? with
    | none => rfl
    | some x => simp [bl_ofB]
  rw [e]
  simp
end Go.Proofs.YticdfbhbbapbdaaDoor.Am
/- Plain laws of facts and nogoods in the texts of chapter 30. -/
namespace Go.Proofs.YticdfbhbbapbdaaDoor.Am
open Go.RowKit
/-- the fact of a word -/
def fpair : Option Int → Option Int → Bool → Option Fact
  | some v, some x, true => some (v, x)
  | _, _, _ => none
def factF (l : List UInt8) : Option Fact := fpair (numF (Lib.cut l [61]).1) (numF (Lib.cut l [61]).2.1) (Lib.cut l [61]).2.2
theorem factF_cut {l a b : List UInt8} {is : Bool} (h : Lib.cut l [61] = (a, b, is)) : factF l = fpair (numF a) (numF b) is := by rw [factF, h]
def factsF : List (List UInt8) → Option (List Fact)
  | [] => some []
  | w :: r => match factF w, factsF r with
    | some f, some fs => some (f :: fs)
    | _, _ => none
theorem cut_cases (c : UInt8) (l : List UInt8) : (c ∉ l ∧ Lib.cut l [c] = (l, [], false)) ∨ ∃ a r, c ∉ a ∧ l = a ++ c :: r ∧ Lib.cut l [c] = (a, r, true) := by
  rcases splitL_cases c l with ⟨h, _⟩ | ⟨a, r, h, e, _⟩
  · exact .inl ⟨h, cut_none h⟩
  · exact .inr ⟨a, r, h, e, by rw [e]; exact cut_app h⟩
theorem ext_front {s : ByteArray} {a r : List UInt8} (h : bl s = a ++ r) : s.extract 0 a.length = ofB a := by
  apply bl_inj
  rw [bl_extract, bl_ofB, h]
  simp
theorem ext_back {s : ByteArray} {a r : List UInt8} {c : UInt8} (h : bl s = a ++ c :: r) : s.extract (a.length + 1) s.size = ofB r := by
  apply bl_inj
  have hs : s.size = a.length + 1 + r.length := by rw [← bl_len, h]; simp; omega
  rw [bl_extract, bl_ofB, h, show a.length + 1 = (a ++ [c]).length from by simp, show a ++ c :: r = (a ++ [c]) ++ r from by simp, List.drop_left]
  apply List.take_of_length_le
  simp; omega
theorem size_ofB (l : List UInt8) : (ofB l).size = l.length := by rw [← bl_len, bl_ofB]
theorem reffact_none {s : ByteArray} (hs : s.size ≤ 65536) (h : (61 : UInt8) ∉ bl s) : ∀ (k n : Nat), n ≤ s.size → s.size < k + n → M_stratagemref30_fact_L1 s k (n : Int) = some ((0, 0), false) := by
  intro k
  induction k with
  | zero => intro n h1 h2; omega
  | succ k ih =>
    intro n h1 h2
    rw [M_stratagemref30_fact_L1]
    simp only [sel_dec, beq_int]
    by_cases hn : n < s.size
    · rw [if_pos (by omega)]
      obtain ⟨c, hd, hb, _⟩ := byt_drop hn
      have hc : c ≠ 61 := fun e => h (by rw [← e]; exact List.mem_of_mem_drop (by rw [hd]; exact List.mem_cons_self))
      have g1 : (0 : Int) ≤ (n : Int) := by omega
      have g2 : (n : Int) < (s.size : Int) := by omega
      rw [hb, grd_t g1, grd_t g2, if_neg (show ¬ (c.toNat : Int) = 61 from fun e => hc (toNat_eq (k := 61) (by decide) e)), w64s (by omega)]
      exact ih (n + 1) hn (by omega)
    · rw [if_neg (by omega)]
theorem reffact_some {s : ByteArray} (hs : s.size ≤ 65536) {a r : List UInt8} (ha : (61 : UInt8) ∉ a) (h : bl s = a ++ 61 :: r) : ∃ f, (∀ (k n : Nat), n ≤ a.length → s.size < k + n → M_stratagemref30_fact_L1 s k (n : Int) = some (f, ((numF a).isSome && (numF r).isSome))) ∧ ∀ v x, numF a = some v → numF r = some x → f = (v, x) := by
  have hsz : s.size = a.length + 1 + r.length := by rw [← bl_len, h]; simp; omega
  obtain ⟨v, hv, hv2⟩ := refnumber_eq (ofB a) (by rw [size_ofB]; omega)
  obtain ⟨x, hx, hx2⟩ := refnumber_eq (ofB r) (by rw [size_ofB]; omega)
  rw [bl_ofB] at hv hx hv2 hx2
  refine ⟨(v, x), ?_, fun v' x' h1 h2 => by rw [hv2 v' h1, hx2 x' h2]⟩
  intro k
  induction k with
  | zero => intro n h1 h2; omega
  | succ k ih =>
    intro n h1 h2
    have hn : n < s.size := by omega
    rw [M_stratagemref30_fact_L1]
    simp only [sel_dec, beq_int]
    rw [if_pos (by omega)]
    obtain ⟨c, hd, hb, _⟩ := byt_drop hn
    have g1 : (0 : Int) ≤ (n : Int) := by omega
    have g2 : (n : Int) < (s.size : Int) := by omega
    rw [hb, grd_t g1, grd_t g2]
    rcases Nat.lt_or_eq_of_le h1 with hlt | rfl
    · have hc : c ≠ 61 := fun e => ha (by
        rw [h, List.drop_append_of_le_length (by omega)] at hd
        obtain ⟨y, hy, hyd⟩ := drop_at (l := a) hlt
        rw [hyd] at hd
        injection hd with hd
        rw [← e, ← hd]
        exact List.mem_of_getElem? hy)
      rw [if_neg (show ¬ (c.toNat : Int) = 61 from fun e => hc (toNat_eq (k := 61) (by decide) e)), w64s (by omega)]
      exact ih (n + 1) hlt (by omega)
    · have hc : c = 61 := by
        rw [h, List.drop_left] at hd
        injection hd with hd
        exact hd.symm
      have e2 : IntKind.i64.wrap ((a.length : Int) + 1) = ((a.length + 1 : Nat) : Int) := w64s (by omega)
      have q3 : (0 : Int) ≤ ((a.length + 1 : Nat) : Int) := by omega
      have q5 : a.length + 1 ≤ s.size := by omega
      have q6 : a.length ≤ s.size := by omega
      rw [if_pos (by rw [hc]; rfl)]
      simp only [e2, Int.toNat_natCast]
      rw [ext_front h, ext_back h, hv, ob2_some, grd_t q6, hx, ob2_some, grd_t q3, grd_t q5]
      cases (numF a).isSome <;> rfl
theorem reffact_eq (s : ByteArray) (hs : s.size ≤ 65536) : ∃ f, M_stratagemref30_fact s = some (f, (factF (bl s)).isSome) ∧ ∀ g, factF (bl s) = some g → f = g := by
  rw [M_stratagemref30_fact, Int.toNat_natCast]
  rcases cut_cases 61 (bl s) with ⟨h, e⟩ | ⟨a, r, h, e, e2⟩
  · refine ⟨(0, 0), ?_, ?_⟩
    · rw [show (0 : Int) = ((0 : Nat) : Int) from rfl, reffact_none hs h _ 0 (by omega) (by omega), factF_cut e]
      cases numF (bl s) <;> rfl
    · intro g hg; rw [factF_cut e] at hg; cases hv : numF (bl s) <;> rw [hv] at hg <;> cases hg
  · obtain ⟨f, hf, hf2⟩ := reffact_some hs h e
    refine ⟨f, ?_, ?_⟩
    · rw [show (0 : Int) = ((0 : Nat) : Int) from rfl, hf _ 0 (by omega) (by omega), factF_cut e2]
      cases numF a <;> cases numF r <;> rfl
    · intro g hg
      rw [factF_cut e2] at hg
      cases hv : numF a with
      | none => rw [hv] at hg; cases hg
      | some v =>
        cases hx : numF r with
        | none => rw [hv, hx] at hg; cases hg
        | some x => rw [hv, hx] at hg; injection hg with hg; rw [← hg]; exact hf2 v x hv hx
/-- a cut, as the model has it -/
theorem cut_model {s : ByteArray} {c : UInt8} (hs : s.size ≤ 65536) {a b : List UInt8} {is : Bool} (h : Lib.cut (bl s) [c] = (a, b, is)) : M_strings_Cut s ⟨#[c]⟩ = some (ofB a, ofB b, is) := by
  rw [M_strings_Cut, grd_t (by omega), cutB]
  show some ((⟨(Lib.cut (bl s) [c]).1.toArray⟩ : ByteArray), (⟨(Lib.cut (bl s) [c]).2.1.toArray⟩ : ByteArray), (Lib.cut (bl s) [c]).2.2) = _
  rw [h]
  rfl
theorem cut_len {c : UInt8} {l a b : List UInt8} {is : Bool} (h : Lib.cut l [c] = (a, b, is)) : a.length ≤ l.length ∧ b.length ≤ l.length := by
  rcases cut_cases c l with ⟨_, e⟩ | ⟨a', r', _, e, e2⟩
  · rw [e] at h; injection h with h1 h2; injection h2 with h2 h3; subst h1 h2; simp
  · rw [e2] at h; injection h with h1 h2; injection h2 with h2 h3; subst h1 h2; rw [e]; simp; omega
theorem nogood_loop (d : Int) (ws : List (List UInt8)) (hw : ∀ w ∈ ws, w.length ≤ 65536) (hl : ws.length ≤ 70000) : ∀ (k n : Nat) (acc : List Fact), n ≤ ws.length → ws.length < k + n → acc.length ≤ n →
    M_certificate_nogood_L1 d (ws.map ofB) k (n : Int) acc = some (match factsF (ws.drop n) with | some fs => ((acc ++ fs, d), true) | none => (([], 0), false)) := by
  intro k
  induction k with
  | zero => intro n acc h1 h2; omega
  | succ k ih =>
    intro n acc h1 h2 h3
    rw [M_certificate_nogood_L1]
    simp only [sel_dec, List.length_map, sel_not]
    by_cases hn : n < ws.length
    · rw [if_pos (by omega)]
      obtain ⟨w, hw1, hw2⟩ := drop_at hn
      have hwl := hw w (List.mem_of_getElem? hw1)
      rw [ix_at (y := ofB w) (by rw [List.getElem?_map, hw1]; rfl), hw2, factsF]
      obtain ⟨a, b, is, hc⟩ : ∃ a b is, Lib.cut w [61] = (a, b, is) := ⟨_, _, _, rfl⟩
      rw [cut_model (a := a) (b := b) (is := is) (by rw [size_ofB]; omega) (by rw [bl_ofB]; exact hc), ob3_some, number_eq, number_eq, bl_ofB, bl_ofB, factF_cut hc]
      cases is with
      | false => cases numF a <;> cases numF b <;> rfl
      | true =>
        cases ha : numF a with
        | none => cases numF b <;> rfl
        | some v =>
          cases hb : numF b with
          | none => rfl
          | some x =>
            simp only [ob2_some, sel_tt]
            rw [grd_t (by omega), w64s (by omega), ih (n + 1) (acc ++ [(v, x)]) hn (by omega) (by simp; omega)]
            cases factsF (ws.drop (n + 1)) with
            | none => rfl
            | some fs => simp [fpair]
    · rw [if_neg (by omega), List.drop_eq_nil_of_le (by omega), grd_t (by omega)]
      simp [factsF]
theorem refnogood_loop (z1 : List ByteArray) (ws : List (List UInt8)) (hz : (z1.take (z1.map cS).length).drop 2 = ws.map ofB) (d : Int) (hw : ∀ w ∈ ws, w.length ≤ 65536) (hl : ws.length ≤ 70000) : ∀ (k n : Nat) (ok : Bool) (acc : List Fact), n ≤ ws.length → ws.length < k + n → acc.length ≤ n →
    ∃ fs', M_stratagemref30_nogood_L1 z1 d k ok (n : Int) acc = some ((fs', d), ok && (factsF (ws.drop n)).isSome) ∧ ∀ fs, factsF (ws.drop n) = some fs → fs' = acc ++ fs := by
  intro k
  induction k with
  | zero => intro n ok acc h1 h2; omega
  | succ k ih =>
    intro n ok acc h1 h2 h3
    rw [M_stratagemref30_nogood_L1, hz]
    simp only [sel_dec, List.length_map]
    by_cases hn : n < ws.length
    · rw [if_pos (by omega)]
      obtain ⟨w, hw1, hw2⟩ := drop_at hn
      have hwl := hw w (List.mem_of_getElem? hw1)
      obtain ⟨f, hf, hf2⟩ := reffact_eq (ofB w) (by rw [size_ofB]; omega)
      rw [bl_ofB] at hf hf2
      rw [ix_at (y := ofB w) (by rw [List.getElem?_map, hw1]; rfl), hw2, factsF, hf, ob2_some, grd_t (by omega), grd_t (by omega), w64s (by omega)]
      obtain ⟨p, hp, hp2⟩ := ih (n + 1) (ok && (factF w).isSome) (acc ++ [f]) hn (by omega) (by simp; omega)
      refine ⟨p, ?_, ?_⟩
      · have e : (sel ok (M_stratagemref30_nogood_L1 z1 d k (factF w).isSome ((n + 1 : Nat) : Int) (acc ++ [f])) (M_stratagemref30_nogood_L1 z1 d k false ((n + 1 : Nat) : Int) (acc ++ [f]))) = M_stratagemref30_nogood_L1 z1 d k (ok && (factF w).isSome) ((n + 1 : Nat) : Int) (acc ++ [f]) := by cases ok <;> rfl
        rw [e, hp]
        cases ok <;> cases factF w <;> cases factsF (ws.drop (n + 1)) <;> rfl
      · intro fs h
        cases hfw : factF w with
        | none => rw [hfw] at h; cases h
        | some g =>
          cases hr : factsF (ws.drop (n + 1)) with
          | none => rw [hfw, hr] at h; cases h
          | some gs =>
            rw [hfw, hr] at h
            injection h with h
            rw [hp2 gs hr, ← h, hf2 g hfw]
            simp
    · rw [if_neg (by omega), List.drop_eq_nil_of_le (by omega), grd_t (by omega)]
      exact ⟨acc, by simp [factsF], fun fs h => by simp [factsF] at h; subst h; simp⟩
def kNogood : List UInt8 := [110, 111, 103, 111, 111, 100]
def kLower : List UInt8 := [108, 111, 119, 101, 114]
/-- the nogood of a line, by its words -/
def nogW : List UInt8 → List UInt8 → List (List UInt8) → Option Nogood
  | w0, w1, ws => if w0 = kNogood ∧ w1.getLast? = some 58 then (match numF w1.dropLast, factsF ws with
    | some d, some fs => some (fs, d)
    | _, _ => none) else none
def nogoodF (l : List UInt8) : Option Nogood :=
  match splitL 32 l with
  | w0 :: w1 :: ws => nogW w0 w1 ws
  | _ => none
theorem take_all {z1 : List ByteArray} : z1.take (z1.map cS).length = z1 := by rw [List.length_map, List.take_length]
theorem ofB_lit (s : ByteArray) (w : List UInt8) : ((ofB w).toList == s.toList) = decide (w = bl s) := by
  rw [toList_bl, toList_bl, bl_ofB]
  by_cases h : w = bl s <;> simp [h]
theorem refnogood_eq (s : ByteArray) (hs : s.size ≤ 65536) : ∃ g, M_stratagemref30_nogood s = some (g, (nogoodF (bl s)).isSome) ∧ ∀ x, nogoodF (bl s) = some x → g = x := by
  rw [M_stratagemref30_nogood, words_eq s hs, ob1_some]
  have hlen := splitL_len_le 32 (bl s)
  rw [bl_len] at hlen
  have hmem : ∀ w ∈ splitL 32 (bl s), w.length ≤ 65536 := fun w hw => by have := splitL_mem_len hw; rw [bl_len] at this; omega
  rw [nogoodF]
  match hsp : splitL 32 (bl s) with
  | [] => exact absurd hsp (splitL_ne _ _)
  | [w0] =>
    simp only [sel_dec]
    rw [if_pos (by simp)]
    exact ⟨([], 0), rfl, fun x h => by cases h⟩
  | w0 :: w1 :: ws =>
    rw [hsp] at hlen hmem
    have hw1 := hmem w1 (by simp)
    simp only [sel_dec, sel_not]
    rw [if_neg (by simp; omega)]
    have a0 : ((w0 :: w1 :: ws).map ofB)[0]? = some (ofB w0) := rfl
    have a1 : ((w0 :: w1 :: ws).map ofB)[1]? = some (ofB w1) := rfl
    rw [show (0 : Int) = ((0 : Nat) : Int) from rfl, show (1 : Int) = ((1 : Nat) : Int) from rfl]
    simp only [ix_at a0, ix_at a1, ofB_lit]
    show ∃ g, _ = some (g, (nogW w0 w1 ws).isSome) ∧ ∀ x, nogW w0 w1 ws = some x → g = x
    rw [nogW]
    by_cases h0 : w0 = kNogood
    · rw [show decide (w0 = bl (⟨#[110, 111, 103, 111, 111, 100]⟩ : ByteArray)) = true from decide_eq_true h0, sel_tt]
      by_cases he : w1 = []
      · subst he
        rw [if_neg (by simp)]
        exact ⟨([], 0), rfl, fun x h => by cases h⟩
      · rw [show decide (w1 = bl (⟨#[]⟩ : ByteArray)) = false from decide_eq_false he, sel_ff, size_ofB]
        have hpos : 0 < w1.length := List.length_pos_iff.2 he
        have e1 : IntKind.i64.wrap ((w1.length : Int) - ((1 : Nat) : Int)) = ((w1.length - 1 : Nat) : Int) := by rw [w64 (by omega) (by omega)]; omega
        rw [e1]
        have q1 : ((0 : Nat) : Int) ≤ ((w1.length - 1 : Nat) : Int) := by omega
        have q2 : ((w1.length - 1 : Nat) : Int) < (w1.length : Int) := by omega
        have hlast : w1.getLast? = some (w1[w1.length - 1]'(by omega)) := by rw [List.getLast?_eq_getElem?, List.getElem?_eq_getElem]
        have hby : byt (ofB w1) ((w1.length - 1 : Nat) : Int) = ((w1[w1.length - 1]'(by omega)).toNat : Int) := by
          rw [byt_bl _ _ (by rw [size_ofB]; omega)]
          simp only [bl_ofB]
        simp only [grd_t q1, grd_t q2, hby, Int.toNat_natCast]
        by_cases h58 : w1[w1.length - 1]'(by omega) = 58
        · rw [h58, if_pos ⟨h0, by rw [hlast, h58]⟩]
          have hx : (ofB w1).extract 0 (w1.length - 1) = ofB w1.dropLast := by
            apply bl_inj
            rw [bl_extract, bl_ofB, bl_ofB, List.dropLast_eq_take]
            simp
          obtain ⟨d, hd, hd2⟩ := refnumber_eq (ofB w1.dropLast) (by rw [size_ofB]; simp; omega)
          rw [bl_ofB] at hd hd2
          have hz : (((w0 :: w1 :: ws).map ofB).take (((w0 :: w1 :: ws).map ofB).map cS).length).drop 2 = ws.map ofB := by rw [take_all]; rfl
          obtain ⟨p, hp, hp2⟩ := refnogood_loop ((w0 :: w1 :: ws).map ofB) ws hz d (fun w hw => hmem w (by simp [hw])) (by simp at hlen; omega) (ws.length + 1) 0 (numF w1.dropLast).isSome [] (by omega) (by omega) (by simp)
          have q3 : w1.length - 1 ≤ w1.length := by omega
          have q4 : 2 ≤ (((w0 :: w1 :: ws).map ofB).map cS).length := by simp
          have q5 : (((((w0 :: w1 :: ws).map ofB).take (((w0 :: w1 :: ws).map ofB).map cS).length).drop 2).map cS).length + 1 = ws.length + 1 := by rw [hz]; simp
          show ∃ g, ob1 (some (Sum.inl ())) _ = _ ∧ _
          rw [ob1_some, osum_inl, hx, hd, ob2_some, grd_t q3, grd_t q4, q5]
          rw [List.drop_zero] at hp hp2
          refine ⟨(p, d), ?_, ?_⟩
          · rw [show ((0 : Nat) : Int) = 0 from rfl] at hp
            show M_stratagemref30_nogood_L1 _ d (ws.length + 1) _ 0 [] = _
            rw [hp]
            cases numF w1.dropLast <;> cases factsF ws <;> rfl
          · intro x h
            cases hn : numF w1.dropLast with
            | none => rw [hn] at h; cases h
            | some v =>
              cases hf : factsF ws with
              | none => rw [hn, hf] at h; cases h
              | some fs =>
                rw [hn, hf] at h
                injection h with h
                rw [← h, hp2 fs hf, hd2 v hn, List.nil_append]
        · rw [if_neg (by rintro ⟨_, h⟩; rw [hlast] at h; injection h with h; exact h58 h)]
          have hne : ((((w1[w1.length - 1]'(by omega)).toNat : Int)) != 58) = true := by
            simp
            intro e
            exact h58 (toNat_eq (k := 58) (by decide) e)
          rw [hne]
          exact ⟨([], 0), rfl, fun x h => by cases h⟩
    · rw [show decide (w0 = bl (⟨#[110, 111, 103, 111, 111, 100]⟩ : ByteArray)) = false from decide_eq_false h0, sel_ff, if_neg (fun h => h0 h.1)]
      exact ⟨([], 0), rfl, fun x h => by cases h⟩
theorem splitL_mem_sub {c : UInt8} {l w : List UInt8} (h : w ∈ splitL c l) : ∀ x ∈ w, x ∈ l := by
  induction l generalizing w with
  | nil => simp [splitL] at h; subst h; simp
  | cons y r ih =>
    rw [splitL] at h
    split at h
    · rcases List.mem_cons.1 h with rfl | h
      · simp
      · intro x hx; exact List.mem_cons_of_mem _ (ih h x hx)
    · cases hs : splitL c r with
      | nil => exact absurd hs (splitL_ne c r)
      | cons a t =>
        rw [hs] at h ih
        simp only [List.headD_cons, List.tail_cons, List.mem_cons] at h
        rcases h with rfl | h
        · intro x hx
          rcases List.mem_cons.1 hx with rfl | hx
          · simp
          · exact List.mem_cons_of_mem _ (ih (by simp) x hx)
        · intro x hx; exact List.mem_cons_of_mem _ (ih (by simp [h]) x hx)
/-- the first piece is a front part -/
theorem splitL_front {c : UInt8} {l w : List UInt8} {t : List (List UInt8)} (h : splitL c l = w :: t) : (t = [] ∧ l = w) ∨ ∃ r, l = w ++ c :: r ∧ t = splitL c r := by
  rcases splitL_cases c l with ⟨_, e⟩ | ⟨a, r, _, e, e2⟩
  · rw [e] at h; injection h with h1 h2; exact .inl ⟨h2.symm, h1⟩
  · rw [e2] at h; injection h with h1 h2; exact .inr ⟨r, by rw [e, h1], h2.symm⟩
theorem first_uniq {c : UInt8} : ∀ {a b r s : List UInt8}, c ∉ a → c ∉ b → a ++ c :: r = b ++ c :: s → a = b ∧ r = s
  | [], [], r, s, _, _, h => by simpa using h
  | [], y :: b, r, s, _, hb, h => by simp at h; exact absurd (by simp [h.1]) hb
  | x :: a, [], r, s, ha, _, h => by simp at h; exact absurd (by simp [h.1]) ha
  | x :: a, y :: b, r, s, ha, hb, h => by
    simp only [List.cons_append, List.cons.injEq] at h
    obtain ⟨e1, e2⟩ := first_uniq (fun hx => ha (by simp [hx])) (fun hx => hb (by simp [hx])) h.2
    exact ⟨by rw [h.1, e1], e2⟩
theorem dig_ne {l : List UInt8} {d : Int} (h : numF l = some d) {c : UInt8} (hc : isDig c = false) : c ∉ l := fun hm => by rw [numF_dig h c hm] at hc; cases hc
theorem last_split {w : List UInt8} (h : w.getLast? = some 58) : w = w.dropLast ++ [58] := by
  have hne : w ≠ [] := fun e => by rw [e] at h; cases h
  rw [List.getLast?_eq_some_getLast hne] at h
  injection h with h
  have := List.dropLast_concat_getLast hne
  rw [h] at this
  exact this.symm
/-- what a nogood's line says of its bytes -/
theorem nogood_shape {r : List UInt8} {w1 : List UInt8} {ws : List (List UInt8)} (hs : splitL 32 r = w1 :: ws) {d : Int} (hl : w1.getLast? = some 58) (_hd : numF w1.dropLast = some d) : ∃ b, r = w1.dropLast ++ 58 :: b ∧ (b = [] ∧ ws = [] ∨ ∃ b', b = 32 :: b' ∧ ws = splitL 32 b') := by
  have hw := last_split hl
  rcases splitL_front hs with ⟨h1, h2⟩ | ⟨r', h1, h2⟩
  · exact ⟨[], by rw [h2]; exact hw, .inl ⟨rfl, h1⟩⟩
  · exact ⟨32 :: r', by rw [h1]; conv => lhs; rw [hw]
                        simp, .inr ⟨r', rfl, h2⟩⟩
theorem trim_no {l p : List UInt8} (h : Lib.hasPrefix l p = false) : Lib.trimPrefix l p = l := by rw [Lib.trimPrefix, if_neg (by rw [h]; simp)]
theorem prefix_yes (p r : List UInt8) : Lib.hasPrefix (p ++ r) p = true ∧ Lib.trimPrefix (p ++ r) p = r := by
  have h : Lib.hasPrefix (p ++ r) p = true := by simp [Lib.hasPrefix, List.isPrefixOf_iff_prefix]
  refine ⟨h, ?_⟩
  rw [Lib.trimPrefix, if_pos h]
  simp
theorem prefix_of {l p : List UInt8} (h : Lib.hasPrefix l p = true) : ∃ r, l = p ++ r := by
  simp [Lib.hasPrefix, List.isPrefixOf_iff_prefix] at h
  obtain ⟨r, hr⟩ := h
  exact ⟨r, hr.symm⟩
theorem cutPrefix_model (s : ByteArray) (p : ByteArray) : M_strings_CutPrefix s p = some (ofB (Lib.trimPrefix (bl s) (bl p)), Lib.hasPrefix (bl s) (bl p)) := rfl
theorem nogood_eq (s : ByteArray) (hs : s.size ≤ 65536) : M_certificate_nogood s = some (match nogoodF (bl s) with | some x => (x, true) | none => (([], 0), false)) := by
  rw [M_certificate_nogood, cutPrefix_model, ob2_some]
  have hp : bl (⟨#[110, 111, 103, 111, 111, 100, 32]⟩ : ByteArray) = kNogood ++ [32] := rfl
  rw [hp]
  have hk : (32 : UInt8) ∉ kNogood := by decide
  cases hpre : Lib.hasPrefix (bl s) (kNogood ++ [32]) with
  | false =>
    rw [trim_no hpre, ofB_bl]
    obtain ⟨a, b, is, hc⟩ : ∃ a b is, Lib.cut (bl s) [58] = (a, b, is) := ⟨_, _, _, rfl⟩
    rw [cut_model hs hc, ob3_some, number_eq]
    have hno : nogoodF (bl s) = none := by
      rw [nogoodF]
      match hsp : splitL 32 (bl s) with
      | [] => rfl
      | [_] => rfl
      | w0 :: w1 :: ws =>
        show nogW w0 w1 ws = none
        rw [nogW, if_neg]
        rintro ⟨h0, _⟩
        rcases splitL_front hsp with ⟨h1, _⟩ | ⟨r, h1, _⟩
        · cases h1
        · rw [h1, h0, show kNogood ++ 32 :: r = (kNogood ++ [32]) ++ r from by simp, (prefix_yes _ r).1] at hpre
          cases hpre
    rw [hno]
    cases numF (bl (ofB a)) <;> rfl
  | true =>
    obtain ⟨r, hr⟩ := prefix_of hpre
    rw [hr, (prefix_yes _ r).2]
    have hrl : r.length + 7 = s.size := by rw [← bl_len, hr]; simp [kNogood]
    have hF : nogoodF ((kNogood ++ [32]) ++ r) = match splitL 32 r with | w1 :: ws => nogW kNogood w1 ws | [] => none := by
      rw [nogoodF, show (kNogood ++ [32]) ++ r = kNogood ++ 32 :: r from by simp, splitL_app hk]
      cases splitL 32 r <;> rfl
    rw [hF]
    rcases cut_cases 58 r with ⟨h58, e⟩ | ⟨a, b, ha, e, e2⟩
    · rw [cut_model (s := ofB r) (a := r) (b := []) (is := false) (by rw [size_ofB]; omega) (by rw [bl_ofB]; exact e), ob3_some, number_eq]
      have hno : (match splitL 32 r with | w1 :: ws => nogW kNogood w1 ws | [] => none) = none := by
        match hsp : splitL 32 r with
        | [] => rfl
        | w1 :: ws =>
          show nogW kNogood w1 ws = none
          rw [nogW, if_neg]
          rintro ⟨_, h⟩
          exact h58 (splitL_mem_sub (by rw [hsp]; simp) 58 (List.mem_of_getLast? h))
      rw [hno]
      cases numF (bl (ofB r)) <;> rfl
    · rw [cut_model (s := ofB r) (a := a) (b := b) (is := true) (by rw [size_ofB]; omega) (by rw [bl_ofB]; exact e2), ob3_some, number_eq, bl_ofB]
      cases hd : numF a with
      | none =>
        have hno : (match splitL 32 r with | w1 :: ws => nogW kNogood w1 ws | [] => none) = none := by
          match hsp : splitL 32 r with
          | [] => rfl
          | w1 :: ws =>
            show nogW kNogood w1 ws = none
            rw [nogW]
            split
            · rename_i h
              cases hn : numF w1.dropLast with
              | none => rfl
              | some d =>
                obtain ⟨b', hb, _⟩ := nogood_shape hsp h.2 hn
                have := (first_uniq ha (dig_ne hn (by decide)) (e.symm.trans hb)).1
                rw [this, hn] at hd
                cases hd
            · rfl
        rw [hno]
        rfl
      | some d =>
        have ha32 : (32 : UInt8) ∉ a := dig_ne hd (by decide)
        have hal : (32 : UInt8) ∉ a ++ [58] := by simp [ha32]
        simp only [ob2_some, sel_not, sel_tt, ob1_some, osum_inl]
        rw [ofB_lit]
        match b, e with
        | [], e =>
          have : splitL 32 r = [a ++ [58]] := by rw [e]; exact splitL_free hal
          rw [this, show decide (([] : List UInt8) = bl (⟨#[]⟩ : ByteArray)) = true from rfl, sel_tt]
          show _ = some (match nogW kNogood (a ++ [58]) [] with | some x => (x, true) | none => (([], 0), false))
          rw [nogW, if_pos ⟨rfl, by simp⟩, List.dropLast_concat, hd]
          rfl
        | x :: b', e =>
          rw [show decide (x :: b' = bl (⟨#[]⟩ : ByteArray)) = false from decide_eq_false (by simp), sel_ff]
          have hz : byt (ofB (x :: b')) 0 = (x.toNat : Int) := by
            have := byt_bl (ofB (x :: b')) 0 (by rw [size_ofB]; simp)
            simp only [bl_ofB] at this
            exact this
          have hbl : r.length = a.length + 1 + (b'.length + 1) := by rw [e]; simp; omega
          have g0 : (0 : Int) < ((ofB (x :: b')).size : Int) := by rw [size_ofB]; simp
          rw [grd_t g0, hz]
          by_cases hx : x = 32
          · have h32 : ((x.toNat : Int) != 32) = false := by rw [hx]; rfl
            have hex : (ofB (x :: b')).extract 1 (ofB (x :: b')).size = ofB b' := by
              apply bl_inj
              rw [bl_extract, bl_ofB, bl_ofB, size_ofB]
              simp
            have hsp : splitL 32 r = (a ++ [58]) :: splitL 32 b' := by rw [e, hx, show a ++ 58 :: 32 :: b' = (a ++ [58]) ++ 32 :: b' from by simp]; exact splitL_app hal
            have g1 : 1 ≤ (ofB (x :: b')).size := by rw [size_ofB]; simp
            rw [h32, sel_ff, hex, M_strings_Split, grd_t (by rw [size_ofB]; omega), grd_t (by exact Nat.le_refl 1), split_eq 32 _ _ (Nat.le_refl _), bl_ofB, ob1_some, grd_t g1, hsp]
            have hml := splitL_len_le 32 b'
            have hloop := nogood_loop d (splitL 32 b') (fun w hw => by have := splitL_mem_len hw; omega) (by omega) ((splitL 32 b').length + 1) 0 [] (by omega) (by omega) (by simp)
            rw [List.drop_zero, show ((0 : Nat) : Int) = 0 from rfl] at hloop
            rw [show ((((splitL 32 b').map ofB).map cS).length : Int).toNat + 1 = (splitL 32 b').length + 1 from by simp, hloop]
            show _ = some (match nogW kNogood (a ++ [58]) (splitL 32 b') with | some x => (x, true) | none => (([], 0), false))
            rw [nogW, if_pos ⟨rfl, by simp⟩, List.dropLast_concat, hd]
            cases factsF (splitL 32 b') <;> rfl
          · have h32 : ((x.toNat : Int) != 32) = true := by
              simp
              intro h
              exact hx (toNat_eq (k := 32) (by decide) h)
            rw [h32, sel_tt]
            have hno : (match splitL 32 r with | w1 :: ws => nogW kNogood w1 ws | [] => none) = none := by
              match hsp : splitL 32 r with
              | [] => rfl
              | w1 :: ws =>
                show nogW kNogood w1 ws = none
                rw [nogW]
                split
                · rename_i h
                  cases hn : numF w1.dropLast with
                  | none => rfl
                  | some d' =>
                    obtain ⟨b2, hb, hb2⟩ := nogood_shape hsp h.2 hn
                    have hq := (first_uniq ha (dig_ne hn (by decide)) (e.symm.trans hb)).2
                    rcases hb2 with ⟨h1, _⟩ | ⟨b3, h1, _⟩
                    · rw [h1] at hq; cases hq
                    · rw [h1] at hq
                      injection hq with hq
                      exact absurd hq hx
                · rfl
            rw [hno]
end Go.Proofs.YticdfbhbbapbdaaDoor.Am
