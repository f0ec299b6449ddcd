/- stratagemref06.Is, partial.valid: is a list of facts a partial state? -/
import Derived.Test.YticdfbhbbapbdaaDoorBase
namespace Go.Proofs.YticdfbhbbapbdaaDoor
open Go.RowKit

def badI (x y p : Int) (k : Nat) : Bool := decide (x < 0) || decide (y < 0) || (decide (0 < k) && decide (x ≤ p))
def isL : Nat → Int → List Fact → Bool
  | _, _, [] => true
  | k, p, (x, y) :: r => if badI x y p k then false else isL (k + 1) x r
def isF (l : List Fact) : Bool := isL 0 0 l

set_option maxHeartbeats 1000000 in
theorem is_calls (v : Value) (fs : List Fact) (w : World) (hv : FactsAt w v fs) :
    Calls Tryd.prog 31 #[v] w fun e w' => e = .returned (.bool (isF fs)) ∧ Below w.heap.size w w' := by
  obtain ⟨A, n, c, rfl, hn, hm⟩ := hv.form
  have HV := Lib.hid hv
  have HN := Lib.hid hn
  clear hv hn
  go_enter Tryd.func31, Tryd.ntmps31
  go_wp2
  go_loopg [7] n (fun g i wr => ∃ k p, k ≤ n ∧ g = n - k ∧ i = .int .i64 k ∧ Below w.heap.size w wr ∧ (∀ q, 0 < k → fs[k - 1]? = some q → p = q.1) ∧ isF fs = isL k p (fs.drop k))
  case atStart => exact ⟨0, 0, Nat.zero_le _, by omega, rfl, Below.refl _ _, fun _ h => absurd h (by omega), rfl⟩
  case round =>
    obtain ⟨k, p, hk, hg, rfl, hB, hp, hF⟩ := hrel
    have HG := Lib.hid hg
    have HP := Lib.hid hp
    have HF := Lib.hid hF
    clear hg hp hF
    by_cases hlt : k < n
    · obtain ⟨b, off, x, y, rfl, c0, c1, hx, hd⟩ := (HV.out.keep hB).at hlt
      have hbr : b < wr.heap.size := lt_of_cell c0
      have HX := Lib.hid hx
      have HD := Lib.hid hd
      clear hx hd
      have hprev : 0 < k → wr.cell? ⟨b, off + (k - 1) * 2, none⟩ = some (.int .i64 p) := by
        intro hk0
        obtain ⟨b', off', x', y', hA', p0, _, hx', _⟩ := (HV.out.keep hB).at (k := k - 1) (by omega)
        injection hA' with hA'
        injection hA' with hb' ho'
        subst hb' ho'
        have hpx := HP.out _ hk0 hx'
        simp only at hpx
        subst hpx
        exact p0
      have HPREV := Lib.hid hprev
      clear hprev
      go_upto_region 4 with fail
      go_cut [34] (fun s wx => s = .bool (badI x y p k) ∧ Below w.heap.size w wx)
      case first =>
        by_cases hk0 : 0 < k
        · have p0 := HPREV.out hk0
          have d0 : decide (0 < k) = true := by simpa using hk0
          refine wp_region_quiet_lit (by kernel_rfl) (by kernel_rfl) ?_
          repeat (any_goals (first | go_big_quiet_step (fail) | quiet_step (fail) | (refine wpQuiet_step (fun K hK => ?_); go_simp; split <;> (refine hK _ ?_; clear hK K))))
          all_goals (refine wpQuiet_nil ?_; intro _ hw'; obtain ⟨nq, hw''⟩ := hw'; subst hw'')
          all_goals (go_wp2_with fail; go_meet; exact ⟨by simp [badI, d0] <;> omega, below_drewN (belowA hB _) _⟩)
        · have d0 : decide (0 < k) = false := by simpa using hk0
          refine wp_region_quiet_lit (by kernel_rfl) (by kernel_rfl) ?_
          repeat (any_goals (first | go_big_quiet_step (fail) | quiet_step (fail) | (refine wpQuiet_step (fun K hK => ?_); go_simp; split <;> (refine hK _ ?_; clear hK K))))
          all_goals (refine wpQuiet_nil ?_; intro _ hw'; obtain ⟨nq, hw''⟩ := hw'; subst hw'')
          all_goals (go_wp2_with fail; go_meet; exact ⟨by simp [badI, d0] <;> omega, below_drewN (belowA hB _) _⟩)
      case rest =>
        obtain ⟨rfl, hB'⟩ := hcut
        cases hbad : badI x y p k
        · go_wp2
          go_roundg (n - (k + 1))
          case measure => have := HG.out; omega
          case rel =>
            refine ⟨k + 1, x, by omega, rfl, by go_num, hB', fun q _ hq => ?_, ?_⟩
            · rw [Nat.add_sub_cancel, HX.out] at hq; injection hq with hq; rw [← hq]
            · rw [HF.out, HD.out, isL, hbad]; rfl
        · go_wp2
          go_ret
          exact ⟨by rw [HF.out, HD.out, isL, hbad]; rfl, hB'⟩
    · go_wp2
      go_ret
      exact ⟨by rw [HF.out, List.drop_eq_nil_of_le (by have := HN.out; omega), isL]; rfl, hB⟩
set_option maxHeartbeats 1000000 in
theorem valid_calls (v : Value) (fs : List Fact) (w : World) (hv : FactsAt w v fs) :
    Calls Tryd.prog 51 #[v] w fun e w' => e = .returned (.bool (isF fs)) ∧ Below w.heap.size w w' := by
  obtain ⟨A, n, c, rfl, hn, hm⟩ := hv.form
  have HV := Lib.hid hv
  have HN := Lib.hid hn
  clear hv hn
  go_enter Tryd.func51, Tryd.ntmps51
  go_wp2
  go_loopg [7] n (fun g i wr => ∃ k p, k ≤ n ∧ g = n - k ∧ i = .int .i64 k ∧ Below w.heap.size w wr ∧ (∀ q, 0 < k → fs[k - 1]? = some q → p = q.1) ∧ isF fs = isL k p (fs.drop k))
  case atStart => exact ⟨0, 0, Nat.zero_le _, by omega, rfl, Below.refl _ _, fun _ h => absurd h (by omega), rfl⟩
  case round =>
    obtain ⟨k, p, hk, hg, rfl, hB, hp, hF⟩ := hrel
    have HG := Lib.hid hg
    have HP := Lib.hid hp
    have HF := Lib.hid hF
    clear hg hp hF
    by_cases hlt : k < n
    · obtain ⟨b, off, x, y, rfl, c0, c1, hx, hd⟩ := (HV.out.keep hB).at hlt
      have hbr : b < wr.heap.size := lt_of_cell c0
      have HX := Lib.hid hx
      have HD := Lib.hid hd
      clear hx hd
      have hprev : 0 < k → wr.cell? ⟨b, off + (k - 1) * 2, none⟩ = some (.int .i64 p) := by
        intro hk0
        obtain ⟨b', off', x', y', hA', p0, _, hx', _⟩ := (HV.out.keep hB).at (k := k - 1) (by omega)
        injection hA' with hA'
        injection hA' with hb' ho'
        subst hb' ho'
        have hpx := HP.out _ hk0 hx'
        simp only at hpx
        subst hpx
        exact p0
      have HPREV := Lib.hid hprev
      clear hprev
      go_upto_region 4 with fail
      go_cut [34] (fun s wx => s = .bool (badI x y p k) ∧ Below w.heap.size w wx)
      case first =>
        by_cases hk0 : 0 < k
        · have p0 := HPREV.out hk0
          have d0 : decide (0 < k) = true := by simpa using hk0
          refine wp_region_quiet_lit (by kernel_rfl) (by kernel_rfl) ?_
          repeat (any_goals (first | go_big_quiet_step (fail) | quiet_step (fail) | (refine wpQuiet_step (fun K hK => ?_); go_simp; split <;> (refine hK _ ?_; clear hK K))))
          all_goals (refine wpQuiet_nil ?_; intro _ hw'; obtain ⟨nq, hw''⟩ := hw'; subst hw'')
          all_goals (go_wp2_with fail; go_meet; exact ⟨by simp [badI, d0] <;> omega, below_drewN (belowA hB _) _⟩)
        · have d0 : decide (0 < k) = false := by simpa using hk0
          refine wp_region_quiet_lit (by kernel_rfl) (by kernel_rfl) ?_
          repeat (any_goals (first | go_big_quiet_step (fail) | quiet_step (fail) | (refine wpQuiet_step (fun K hK => ?_); go_simp; split <;> (refine hK _ ?_; clear hK K))))
          all_goals (refine wpQuiet_nil ?_; intro _ hw'; obtain ⟨nq, hw''⟩ := hw'; subst hw'')
          all_goals (go_wp2_with fail; go_meet; exact ⟨by simp [badI, d0] <;> omega, below_drewN (belowA hB _) _⟩)
      case rest =>
        obtain ⟨rfl, hB'⟩ := hcut
        cases hbad : badI x y p k
        · go_wp2
          go_roundg (n - (k + 1))
          case measure => have := HG.out; omega
          case rel =>
            refine ⟨k + 1, x, by omega, rfl, by go_num, hB', fun q _ hq => ?_, ?_⟩
            · rw [Nat.add_sub_cancel, HX.out] at hq; injection hq with hq; rw [← hq]
            · rw [HF.out, HD.out, isL, hbad]; rfl
        · go_wp2
          go_ret
          exact ⟨by rw [HF.out, HD.out, isL, hbad]; rfl, hB'⟩
    · go_wp2
      go_ret
      exact ⟨by rw [HF.out, List.drop_eq_nil_of_le (by have := HN.out; omega), isL]; rfl, hB⟩
end Go.Proofs.YticdfbhbbapbdaaDoor
