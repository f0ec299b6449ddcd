/- task.Facts, stratagembase.Proper: is a list of facts proper? -/
import Derived.Test.YticdfbhbbapbdaaDoorBase
namespace Go.Proofs.YticdfbhbbapbdaaDoor
open Go.RowKit

def badP (vars : List Int) (last x y : Int) : Bool := decide (x ≤ last) || decide ((vars.length : Int) ≤ x) || decide (y < 0) || decide (vars.getD x.toNat 0 ≤ y)
def propL (vars : List Int) : Int → List Fact → Bool
  | _, [] => true
  | last, (x, y) :: r => if badP vars last x y then false else propL vars x r
def propF (vars : List Int) (l : List Fact) : Bool := propL vars (-1) l

set_option maxHeartbeats 1000000 in
theorem facts_calls (sv v : Value) (s : List Int) (fs : List Fact) (w : World) (hs : IntsAt w sv s) (hv : FactsAt w v fs) :
    Calls Tryd.prog 40 #[sv, v] w fun e w' => e = .returned (.bool (propF s fs)) ∧ Below w.heap.size w w' := by
  obtain ⟨A, n, c, rfl, hn, hm⟩ := hv.form
  obtain ⟨sA, sn, sc, rfl, hsn, hsm⟩ := hs.form
  have HV := Lib.hid hv
  have HN := Lib.hid hn
  have HS := Lib.hid hs
  have HSN := Lib.hid hsn
  clear hv hn hs hsn
  go_enter Tryd.func40, Tryd.ntmps40
  go_wp2
  go_loopg [5, 10] n (fun g t i wr => ∃ (k : Nat) (last : Int), k ≤ n ∧ g = n - k ∧ t = .int .i64 last ∧ i = .int .i64 k ∧ -1 ≤ last ∧ Below w.heap.size w wr ∧ propF s fs = propL s last (fs.drop k))
  case atStart => exact ⟨0, -1, Nat.zero_le _, by omega, rfl, rfl, by omega, Below.refl _ _, rfl⟩
  case round =>
    obtain ⟨k, last, hk, hg, rfl, rfl, hla, hB, hF⟩ := hrel
    have HG := Lib.hid hg
    have HF := Lib.hid hF
    clear hg hF
    by_cases hlt : k < n
    · obtain ⟨b, off, x, y, rfl, c0, c1, hx, hd⟩ := (HV.out.keep hB).at hlt
      have hbr : b < wr.heap.size := lt_of_cell c0
      have HX := Lib.hid hx
      have HD := Lib.hid hd
      clear hx hd
      go_upto_region 5 with fail
      go_cut [39] (fun t wx => t = .bool (badP s last x y) ∧ Below wr.heap.size wr wx ∧ wx.cell? ⟨wr.heap.size, 0, none⟩ = some (.int .i64 x))
      case first =>
        by_cases hx0 : x ≤ last
        · refine wp_region_quiet_lit (by kernel_rfl) (by kernel_rfl) ?_
          repeat (any_goals (first | go_big_quiet_step (fail) | quiet_step (fail) | (refine wpQuiet_step (fun K hK => ?_); go_simp; split <;> (refine hK _ ?_; clear hK K))))
          all_goals (refine wpQuiet_nil ?_; intro _ hw'; obtain ⟨nq, hw''⟩ := hw'; subst hw'')
          all_goals (go_wp2_with fail; go_meet; exact ⟨by simp [badP, hx0], below_drewN (belowA (Below.refl _ _) _) _, by simp⟩)
        · have hx0' : last < x := by omega
          by_cases hx1 : x < sn
          · obtain ⟨sb, so, z, rfl, sc0, hz⟩ := (HS.out.keep hB).num (x := x) (by omega) hx1
            have hsbr : sb < wr.heap.size := lt_of_cell sc0
            have hbad : badP s last x y = (decide (y < 0) || decide (z ≤ y)) := by
              have := HSN.out
              have e1 : decide (x ≤ last) = false := by simpa using hx0'
              have e2 : decide ((s.length : Int) ≤ x) = false := by simp; omega
              simp only [badP, e1, e2, hz, Bool.false_or]
            have hx00 : 0 ≤ x := by omega
            have HZ := Lib.hid hz
            have HBAD := Lib.hid hbad
            clear hz hbad
            refine wp_region_quiet_lit (by kernel_rfl) (by kernel_rfl) ?_
            repeat (any_goals (first | go_big_quiet_step (fail) | quiet_step (fail) | (refine wpQuiet_step (fun K hK => ?_); go_simp; split <;> (refine hK _ ?_; clear hK K))))
            all_goals (refine wpQuiet_nil ?_; intro _ hw'; obtain ⟨nq, hw''⟩ := hw'; subst hw'')
            all_goals (go_wp2_with fail; go_meet; exact ⟨by rw [HBAD.out, Value.bool.injEq, Bool.eq_iff_iff]; simp; omega, below_drewN (belowA (Below.refl _ _) _) _, by simp⟩)
          · have hx1' : (sn : Int) ≤ x := by omega
            have hbad : badP s last x y = true := by
              have := HSN.out
              have e2 : decide ((s.length : Int) ≤ x) = true := by simp; omega
              simp only [badP, e2, Bool.or_true, Bool.true_or]
            have HBAD := Lib.hid hbad
            clear hbad
            refine wp_region_quiet_lit (by kernel_rfl) (by kernel_rfl) ?_
            repeat (any_goals (first | go_big_quiet_step (fail) | quiet_step (fail) | (refine wpQuiet_step (fun K hK => ?_); go_simp; split <;> (refine hK _ ?_; clear hK K))))
            all_goals (refine wpQuiet_nil ?_; intro _ hw'; obtain ⟨nq, hw''⟩ := hw'; subst hw'')
            all_goals (go_wp2_with fail; go_meet; exact ⟨by rw [HBAD.out], below_drewN (belowA (Below.refl _ _) _) _, by simp⟩)
      case rest =>
        obtain ⟨rfl, hB', hc0⟩ := hcut
        cases hbad : badP s last x y
        · go_wp2
          go_roundg (n - (k + 1))
          case measure => have := HG.out; omega
          case rel => exact ⟨k + 1, x, by omega, rfl, rfl, by go_num, by simp [badP] at hbad; omega, belowT hB hB', by rw [HF.out, HD.out, propL, hbad]; rfl⟩
        · go_wp2
          go_ret
          exact ⟨by rw [HF.out, HD.out, propL, hbad]; rfl, belowT hB hB'⟩
    · go_wp2
      go_ret
      exact ⟨by rw [HF.out, List.drop_eq_nil_of_le (by have := HN.out; omega)]; rfl, hB⟩

def badQ (vars : List Int) (x y p : Int) (k : Nat) : Bool := decide (x < 0) || decide ((vars.length : Int) ≤ x) || decide (y < 0) || decide (vars.getD x.toNat 0 ≤ y) || (decide (0 < k) && decide (x ≤ p))
def propQ (vars : List Int) : Nat → Int → List Fact → Bool
  | _, _, [] => true
  | k, p, (x, y) :: r => if badQ vars x y p k then false else propQ vars (k + 1) x r
theorem propQ_eq (vars : List Int) (l : List Fact) : ∀ (k : Nat) (p : Int), 0 < k → 0 ≤ p → propQ vars k p l = propL vars p l := by
  induction l with
  | nil => intro k p _ _; rfl
  | cons z r ih =>
    obtain ⟨x, y⟩ := z
    intro k p hk hp
    have hb : badQ vars x y p k = badP vars p x y := by rw [Bool.eq_iff_iff]; simp [badQ, badP]; omega
    rw [propQ, propL, hb]
    cases hbb : badP vars p x y
    · simp [badP] at hbb
      rw [if_neg (by simp), if_neg (by simp), ih _ _ (by omega) (by omega)]
    · rfl
theorem propQ_propF (vars : List Int) (l : List Fact) : propQ vars 0 0 l = propF vars l := by
  cases l with
  | nil => rfl
  | cons z r =>
    obtain ⟨x, y⟩ := z
    have hb : badQ vars x y 0 0 = badP vars (-1) x y := by rw [Bool.eq_iff_iff]; simp [badQ, badP]; omega
    rw [propF, propQ, propL, hb]
    cases hbb : badP vars (-1) x y
    · simp [badP] at hbb
      rw [if_neg (by simp), if_neg (by simp), propQ_eq _ _ _ _ (by omega) (by omega)]
    · rfl

set_option maxHeartbeats 2000000 in
theorem bproper_calls (sv v : Value) (s : List Int) (fs : List Fact) (w : World) (hs : IntsAt w sv s) (hv : FactsAt w v fs) :
    Calls Tryd.prog 41 #[sv, v] w fun e w' => e = .returned (.bool (propF s fs)) ∧ Below w.heap.size w w' := by
  obtain ⟨A, n, c, rfl, hn, hm⟩ := hv.form
  obtain ⟨sA, sn, sc, rfl, hsn, hsm⟩ := hs.form
  have HV := Lib.hid hv
  have HN := Lib.hid hn
  have HS := Lib.hid hs
  have HSN := Lib.hid hsn
  clear hv hn hs hsn
  go_enter Tryd.func41, Tryd.ntmps41
  go_wp2
  go_loopg [9] n (fun g i wr => ∃ (k : Nat) (p : Int), k ≤ n ∧ g = n - k ∧ i = .int .i64 k ∧ Below w.heap.size w wr ∧ (∀ q, 0 < k → fs[k - 1]? = some q → p = q.1) ∧ propF s fs = propQ s k p (fs.drop k))
  case atStart => exact ⟨0, 0, Nat.zero_le _, by omega, rfl, Below.refl _ _, fun _ h => absurd h (by omega), (propQ_propF s fs).symm⟩
  case round =>
    obtain ⟨k, p, hk, hg, rfl, hB, hp, hF⟩ := hrel
    have HG := Lib.hid hg
    have HF := Lib.hid hF
    have HP := Lib.hid hp
    clear hg hF hp
    by_cases hlt : k < n
    · obtain ⟨b, off, x, y, rfl, c0, c1, hx, hd⟩ := (HV.out.keep hB).at hlt
      have hbr : b < wr.heap.size := lt_of_cell c0
      have HX := Lib.hid hx
      have HD := Lib.hid hd
      clear hx hd
      have hprev : 0 < k → wr.cell? ⟨b, off + (k - 1) * 2, none⟩ = some (.int .i64 p) := by
        intro hk0
        obtain ⟨b', off', x', y', hA', p0, _, hx', _⟩ := (HV.out.keep hB).at (k := k - 1) (by omega)
        injection hA' with hA'
        injection hA' with hb' ho'
        subst hb' ho'
        have hpx := HP.out _ hk0 hx'
        simp only at hpx
        subst hpx
        exact p0
      have HPREV := Lib.hid hprev
      clear hprev
      go_upto_region 4 with fail
      go_cut [53] (fun t wx => t = .bool (badQ s x y p k) ∧ Below w.heap.size w wx)
      case first =>
        by_cases hx0 : x < 0
        · refine wp_region_quiet_lit (by kernel_rfl) (by kernel_rfl) ?_
          repeat (any_goals (first | go_big_quiet_step (fail) | quiet_step (fail) | (refine wpQuiet_step (fun K hK => ?_); go_simp; split <;> (refine hK _ ?_; clear hK K))))
          all_goals (refine wpQuiet_nil ?_; intro _ hw'; obtain ⟨nq, hw''⟩ := hw'; subst hw'')
          all_goals (go_wp2_with fail; go_meet; exact ⟨by simp [badQ, hx0], below_drewN (belowA hB _) _⟩)
        · have hx0' : 0 ≤ x := by omega
          by_cases hx1 : x < sn
          · obtain ⟨sb, so, z, rfl, sc0, hz⟩ := (HS.out.keep hB).num (x := x) (by omega) hx1
            have hsbr : sb < wr.heap.size := lt_of_cell sc0
            have hbad : badQ s x y p k = (decide (y < 0) || decide (z ≤ y) || (decide (0 < k) && decide (x ≤ p))) := by
              have := HSN.out
              have e1 : decide (x < 0) = false := by simpa using hx0'
              have e2 : decide ((s.length : Int) ≤ x) = false := by simp; omega
              simp only [badQ, e1, e2, hz, Bool.false_or]
            have HZ := Lib.hid hz
            have HBAD := Lib.hid hbad
            clear hz hbad
            by_cases hk0 : 0 < k
            · have p0 := HPREV.out hk0
              refine wp_region_quiet_lit (by kernel_rfl) (by kernel_rfl) ?_
              repeat (any_goals (first | go_big_quiet_step (fail) | quiet_step (fail) | (refine wpQuiet_step (fun K hK => ?_); go_simp; split <;> (refine hK _ ?_; clear hK K))))
              all_goals (refine wpQuiet_nil ?_; intro _ hw'; obtain ⟨nq, hw''⟩ := hw'; subst hw'')
              all_goals (go_wp2_with fail; go_meet; exact ⟨by rw [HBAD.out, Value.bool.injEq, Bool.eq_iff_iff]; simp; omega, below_drewN (belowA hB _) _⟩)
            · obtain rfl : k = 0 := by omega
              refine wp_region_quiet_lit (by kernel_rfl) (by kernel_rfl) ?_
              repeat (any_goals (first | go_big_quiet_step (fail) | quiet_step (fail) | (refine wpQuiet_step (fun K hK => ?_); go_simp; split <;> (refine hK _ ?_; clear hK K))))
              all_goals (refine wpQuiet_nil ?_; intro _ hw'; obtain ⟨nq, hw''⟩ := hw'; subst hw'')
              all_goals (go_wp2_with fail; go_meet; exact ⟨by rw [HBAD.out, Value.bool.injEq, Bool.eq_iff_iff]; simp; omega, below_drewN (belowA hB _) _⟩)
          · have hx1' : (sn : Int) ≤ x := by omega
            have hbad : badQ s x y p k = true := by
              have := HSN.out
              have e2 : decide ((s.length : Int) ≤ x) = true := by simp; omega
              simp only [badQ, e2, Bool.or_true, Bool.true_or]
            have HBAD := Lib.hid hbad
            clear hbad
            refine wp_region_quiet_lit (by kernel_rfl) (by kernel_rfl) ?_
            repeat (any_goals (first | go_big_quiet_step (fail) | quiet_step (fail) | (refine wpQuiet_step (fun K hK => ?_); go_simp; split <;> (refine hK _ ?_; clear hK K))))
            all_goals (refine wpQuiet_nil ?_; intro _ hw'; obtain ⟨nq, hw''⟩ := hw'; subst hw'')
            all_goals (go_wp2_with fail; go_meet; exact ⟨by rw [HBAD.out], below_drewN (belowA hB _) _⟩)
      case rest =>
        obtain ⟨rfl, hB'⟩ := hcut
        cases hbad : badQ s x y p k
        · go_wp2
          go_roundg (n - (k + 1))
          case measure => have := HG.out; omega
          case rel =>
            refine ⟨k + 1, x, by omega, rfl, by go_num, hB', fun q _ hq => ?_, ?_⟩
            · rw [Nat.add_sub_cancel, HX.out] at hq; injection hq with hq; rw [← hq]
            · rw [HF.out, HD.out, propQ, hbad]; rfl
        · go_wp2
          go_ret
          exact ⟨by rw [HF.out, HD.out, propQ, hbad]; rfl, hB'⟩
    · go_wp2
      go_ret
      exact ⟨by rw [HF.out, List.drop_eq_nil_of_le (by have := HN.out; omega)]; rfl, hB⟩
end Go.Proofs.YticdfbhbbapbdaaDoor
