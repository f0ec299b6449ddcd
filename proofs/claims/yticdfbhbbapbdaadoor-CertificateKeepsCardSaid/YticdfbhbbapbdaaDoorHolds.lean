/- task.Holds, stratagembase.Holds: has a state all facts of a list? -/
import Derived.Test.YticdfbhbbapbdaaDoorBase
namespace Go.Proofs.YticdfbhbbapbdaaDoor
open Go.RowKit

def badH (s : List Int) (x y : Int) : Bool := decide (x < 0) || decide ((s.length : Int) ≤ x) || (s.getD x.toNat 0 != y)
def holdsF (l : List Fact) (s : List Int) : Bool := l.all fun x => !badH s x.1 x.2

set_option maxHeartbeats 1000000 in
theorem holds_calls (v sv : Value) (fs : List Fact) (s : List Int) (w : World) (hv : FactsAt w v fs) (hs : IntsAt w sv s) :
    Calls Tryd.prog 38 #[v, sv] w fun e w' => e = .returned (.bool (holdsF fs s)) ∧ Below w.heap.size w w' := by
  obtain ⟨A, n, c, rfl, hn, hm⟩ := hv.form
  obtain ⟨sA, sn, sc, rfl, hsn, hsm⟩ := hs.form
  have HV := Lib.hid hv
  have HN := Lib.hid hn
  have HS := Lib.hid hs
  have HSN := Lib.hid hsn
  clear hv hn hs hsn
  go_enter Tryd.func38, Tryd.ntmps38
  go_wp2
  go_loopg [9] n (fun g i wr => ∃ k : Nat, k ≤ n ∧ g = n - k ∧ i = .int .i64 k ∧ Below w.heap.size w wr ∧ holdsF fs s = holdsF (fs.drop k) s)
  case atStart => exact ⟨0, Nat.zero_le _, by omega, rfl, Below.refl _ _, rfl⟩
  case round =>
    obtain ⟨k, hk, hg, rfl, hB, hF⟩ := hrel
    have HG := Lib.hid hg
    have HF := Lib.hid hF
    clear hg hF
    by_cases hlt : k < n
    · obtain ⟨b, off, x, y, rfl, c0, c1, hx, hd⟩ := (HV.out.keep hB).at hlt
      have hbr : b < wr.heap.size := lt_of_cell c0
      have HX := Lib.hid hx
      have HD := Lib.hid hd
      clear hx hd
      go_upto_region 4 with fail
      go_cut [32] (fun t wx => t = .bool (badH s x y) ∧ Below w.heap.size w wx)
      case first =>
        by_cases hx0 : x < 0
        · refine wp_region_quiet_lit (by kernel_rfl) (by kernel_rfl) ?_
          repeat (any_goals (first | go_big_quiet_step (fail) | quiet_step (fail) | (refine wpQuiet_step (fun K hK => ?_); go_simp; split <;> (refine hK _ ?_; clear hK K))))
          all_goals (refine wpQuiet_nil ?_; intro _ hw'; obtain ⟨nq, hw''⟩ := hw'; subst hw'')
          all_goals (go_wp2_with fail; go_meet; exact ⟨by simp [badH, hx0], below_drewN (belowA hB _) _⟩)
        · have hx0' : 0 ≤ x := by omega
          by_cases hx1 : x < sn
          · obtain ⟨sb, so, z, rfl, sc0, hz⟩ := (HS.out.keep hB).num hx0' hx1
            have hsbr : sb < wr.heap.size := lt_of_cell sc0
            have hbad : badH s x y = (z != y) := by
              have := HSN.out
              have e1 : decide (x < 0) = false := by simpa using hx0'
              have e2 : decide ((s.length : Int) ≤ x) = false := by simp; omega
              simp only [badH, e1, e2, hz, Bool.false_or]
            have HZ := Lib.hid hz
            have HBAD := Lib.hid hbad
            clear hz hbad
            refine wp_region_quiet_lit (by kernel_rfl) (by kernel_rfl) ?_
            repeat (any_goals (first | go_big_quiet_step (fail) | quiet_step (fail) | (refine wpQuiet_step (fun K hK => ?_); go_simp; split <;> (refine hK _ ?_; clear hK K))))
            all_goals (refine wpQuiet_nil ?_; intro _ hw'; obtain ⟨nq, hw''⟩ := hw'; subst hw'')
            all_goals (go_wp2_with fail; go_meet; exact ⟨by rw [HBAD.out, Value.bool.injEq, Bool.eq_iff_iff]; simp; omega, below_drewN (belowA hB _) _⟩)
          · have hx1' : (sn : Int) ≤ x := by omega
            have hbad : badH s x y = true := by
              have := HSN.out
              have e2 : decide ((s.length : Int) ≤ x) = true := by simp; omega
              simp only [badH, e2, Bool.or_true, Bool.true_or]
            have HBAD := Lib.hid hbad
            clear hbad
            refine wp_region_quiet_lit (by kernel_rfl) (by kernel_rfl) ?_
            repeat (any_goals (first | go_big_quiet_step (fail) | quiet_step (fail) | (refine wpQuiet_step (fun K hK => ?_); go_simp; split <;> (refine hK _ ?_; clear hK K))))
            all_goals (refine wpQuiet_nil ?_; intro _ hw'; obtain ⟨nq, hw''⟩ := hw'; subst hw'')
            all_goals (go_wp2_with fail; go_meet; exact ⟨by rw [HBAD.out], below_drewN (belowA hB _) _⟩)
      case rest =>
        obtain ⟨rfl, hB'⟩ := hcut
        cases hbad : badH s x y
        · go_wp2
          go_roundg (n - (k + 1))
          case measure => have := HG.out; omega
          case rel => exact ⟨k + 1, by omega, rfl, by go_num, hB', by rw [HF.out, HD.out]; simp [holdsF, hbad]⟩
        · go_wp2
          go_ret
          exact ⟨by rw [HF.out, HD.out]; simp [holdsF, hbad], hB'⟩
    · go_wp2
      go_ret
      exact ⟨by rw [HF.out, List.drop_eq_nil_of_le (by have := HN.out; omega)]; rfl, hB⟩
set_option maxHeartbeats 1000000 in
theorem bholds_calls (v sv : Value) (fs : List Fact) (s : List Int) (w : World) (hv : FactsAt w v fs) (hs : IntsAt w sv s) :
    Calls Tryd.prog 39 #[v, sv] w fun e w' => e = .returned (.bool (holdsF fs s)) ∧ Below w.heap.size w w' := by
  obtain ⟨A, n, c, rfl, hn, hm⟩ := hv.form
  obtain ⟨sA, sn, sc, rfl, hsn, hsm⟩ := hs.form
  have HV := Lib.hid hv
  have HN := Lib.hid hn
  have HS := Lib.hid hs
  have HSN := Lib.hid hsn
  clear hv hn hs hsn
  go_enter Tryd.func39, Tryd.ntmps39
  go_wp2
  go_loopg [9] n (fun g i wr => ∃ k : Nat, k ≤ n ∧ g = n - k ∧ i = .int .i64 k ∧ Below w.heap.size w wr ∧ holdsF fs s = holdsF (fs.drop k) s)
  case atStart => exact ⟨0, Nat.zero_le _, by omega, rfl, Below.refl _ _, rfl⟩
  case round =>
    obtain ⟨k, hk, hg, rfl, hB, hF⟩ := hrel
    have HG := Lib.hid hg
    have HF := Lib.hid hF
    clear hg hF
    by_cases hlt : k < n
    · obtain ⟨b, off, x, y, rfl, c0, c1, hx, hd⟩ := (HV.out.keep hB).at hlt
      have hbr : b < wr.heap.size := lt_of_cell c0
      have HX := Lib.hid hx
      have HD := Lib.hid hd
      clear hx hd
      go_upto_region 4 with fail
      go_cut [32] (fun t wx => t = .bool (badH s x y) ∧ Below w.heap.size w wx)
      case first =>
        by_cases hx0 : x < 0
        · refine wp_region_quiet_lit (by kernel_rfl) (by kernel_rfl) ?_
          repeat (any_goals (first | go_big_quiet_step (fail) | quiet_step (fail) | (refine wpQuiet_step (fun K hK => ?_); go_simp; split <;> (refine hK _ ?_; clear hK K))))
          all_goals (refine wpQuiet_nil ?_; intro _ hw'; obtain ⟨nq, hw''⟩ := hw'; subst hw'')
          all_goals (go_wp2_with fail; go_meet; exact ⟨by simp [badH, hx0], below_drewN (belowA hB _) _⟩)
        · have hx0' : 0 ≤ x := by omega
          by_cases hx1 : x < sn
          · obtain ⟨sb, so, z, rfl, sc0, hz⟩ := (HS.out.keep hB).num hx0' hx1
            have hsbr : sb < wr.heap.size := lt_of_cell sc0
            have hbad : badH s x y = (z != y) := by
              have := HSN.out
              have e1 : decide (x < 0) = false := by simpa using hx0'
              have e2 : decide ((s.length : Int) ≤ x) = false := by simp; omega
              simp only [badH, e1, e2, hz, Bool.false_or]
            have HZ := Lib.hid hz
            have HBAD := Lib.hid hbad
            clear hz hbad
            refine wp_region_quiet_lit (by kernel_rfl) (by kernel_rfl) ?_
            repeat (any_goals (first | go_big_quiet_step (fail) | quiet_step (fail) | (refine wpQuiet_step (fun K hK => ?_); go_simp; split <;> (refine hK _ ?_; clear hK K))))
            all_goals (refine wpQuiet_nil ?_; intro _ hw'; obtain ⟨nq, hw''⟩ := hw'; subst hw'')
            all_goals (go_wp2_with fail; go_meet; exact ⟨by rw [HBAD.out, Value.bool.injEq, Bool.eq_iff_iff]; simp; omega, below_drewN (belowA hB _) _⟩)
          · have hx1' : (sn : Int) ≤ x := by omega
            have hbad : badH s x y = true := by
              have := HSN.out
              have e2 : decide ((s.length : Int) ≤ x) = true := by simp; omega
              simp only [badH, e2, Bool.or_true, Bool.true_or]
            have HBAD := Lib.hid hbad
            clear hbad
            refine wp_region_quiet_lit (by kernel_rfl) (by kernel_rfl) ?_
            repeat (any_goals (first | go_big_quiet_step (fail) | quiet_step (fail) | (refine wpQuiet_step (fun K hK => ?_); go_simp; split <;> (refine hK _ ?_; clear hK K))))
            all_goals (refine wpQuiet_nil ?_; intro _ hw'; obtain ⟨nq, hw''⟩ := hw'; subst hw'')
            all_goals (go_wp2_with fail; go_meet; exact ⟨by rw [HBAD.out], below_drewN (belowA hB _) _⟩)
      case rest =>
        obtain ⟨rfl, hB'⟩ := hcut
        cases hbad : badH s x y
        · go_wp2
          go_roundg (n - (k + 1))
          case measure => have := HG.out; omega
          case rel => exact ⟨k + 1, by omega, rfl, by go_num, hB', by rw [HF.out, HD.out]; simp [holdsF, hbad]⟩
        · go_wp2
          go_ret
          exact ⟨by rw [HF.out, HD.out]; simp [holdsF, hbad], hB'⟩
    · go_wp2
      go_ret
      exact ⟨by rw [HF.out, List.drop_eq_nil_of_le (by have := HN.out; omega)]; rfl, hB⟩

end Go.Proofs.YticdfbhbbapbdaaDoor
