/- stratagembase.Facts: are two lists of facts equal? -/
import Derived.Test.YticdfbhbbapbdaaDoorBase
import Derived.Test.YticdfbhbbapbdaaDoorFactEq
namespace Go.Proofs.YticdfbhbbapbdaaDoor
open Go.RowKit

def eqL : List Fact → List Fact → Bool
  | [], _ => true
  | _ :: _, [] => true
  | x :: r, y :: s => if x.1 = y.1 ∧ x.2 = y.2 then eqL r s else false
theorem eqL_eq (a : List Fact) : ∀ b : List Fact, a.length = b.length → eqL a b = decide (a = b) := by
  induction a with
  | nil => intro b h; cases b with
    | nil => rfl
    | cons y s => simp at h
  | cons x r ih =>
    intro b h
    cases b with
    | nil => simp at h
    | cons y s =>
      simp only [List.length_cons, Nat.add_right_cancel_iff] at h
      rw [eqL, ih s h]
      by_cases hx : x.1 = y.1 ∧ x.2 = y.2
      · rw [if_pos hx]
        have : x = y := Prod.ext hx.1 hx.2
        subst this
        simp
      · rw [if_neg hx]
        have : ¬ x = y := fun e => hx ⟨by rw [e], by rw [e]⟩
        simp [this]
def sameF (a b : List Fact) : Bool := decide (a = b)

set_option maxHeartbeats 1000000 in
theorem bfacts_calls (u v : Value) (a b : List Fact) (w : World) (hu : FactsAt w u a) (hv : FactsAt w v b) :
    Calls Tryd.prog 42 #[u, v] w fun e w' => e = .returned (.bool (sameF a b)) ∧ Below w.heap.size w w' := by
  obtain ⟨A, n, c, rfl, hn, hm⟩ := hu.form
  obtain ⟨B, m, d, rfl, hmb, hmm⟩ := hv.form
  by_cases hnm : n = m
  · subst hnm
    have hfin : sameF a b = eqL a b := (eqL_eq a b (by omega)).symm
    have HU := Lib.hid hu
    have HV := Lib.hid hv
    have HN := Lib.hid hn
    have HMB := Lib.hid hmb
    have HFIN := Lib.hid hfin
    clear hu hv hn hmb hfin
    go_enter Tryd.func42, Tryd.ntmps42
    go_wp2
    go_loopg [13] n (fun g i wr => ∃ k : Nat, k ≤ n ∧ g = n - k ∧ i = .int .i64 k ∧ Below w.heap.size w wr ∧ eqL a b = eqL (a.drop k) (b.drop k))
    case atStart => exact ⟨0, Nat.zero_le _, by omega, rfl, Below.refl _ _, rfl⟩
    case round =>
      obtain ⟨k, hk, hg, rfl, hB, hF⟩ := hrel
      have HG := Lib.hid hg
      have HF := Lib.hid hF
      clear hg hF
      by_cases hlt : k < n
      · obtain ⟨b1, o1, x1, y1, rfl, c0, c1, hx1, hd1⟩ := (HU.out.keep hB).at hlt
        obtain ⟨b2, o2, x2, y2, rfl, e0, e1, hx2, hd2⟩ := (HV.out.keep hB).at hlt
        have HX1 := Lib.hid hx1
        have HD1 := Lib.hid hd1
        have HX2 := Lib.hid hx2
        have HD2 := Lib.hid hd2
        clear hx1 hd1 hx2 hd2
        go_upto_region 6 with fail
        go_cut [24] (fun t wx => t = .bool !(eqB x1 y1 x2 y2) ∧ Below w.heap.size w wx)
        case first =>
          by_cases h1 : x1 = x2
          · subst h1
            by_cases h2 : y1 = y2
            · subst h2
              refine wp_region_quiet_lit (by kernel_rfl) (by kernel_rfl) ?_
              repeat (any_goals (first | go_big_quiet_step (fail) | quiet_step (fail) | (refine wpQuiet_step (fun K hK => ?_); go_simp; split <;> (refine hK _ ?_; clear hK K))))
              all_goals (refine wpQuiet_nil ?_; intro _ hw'; obtain ⟨nq, hw''⟩ := hw'; subst hw'')
              all_goals (go_wp2_with fail; go_meet; exact ⟨by simp [eqB], below_drewN hB _⟩)
            · refine wp_region_quiet_lit (by kernel_rfl) (by kernel_rfl) ?_
              repeat (any_goals (first | go_big_quiet_step (fail) | quiet_step (fail) | (refine wpQuiet_step (fun K hK => ?_); go_simp; split <;> (refine hK _ ?_; clear hK K))))
              all_goals (refine wpQuiet_nil ?_; intro _ hw'; obtain ⟨nq, hw''⟩ := hw'; subst hw'')
              all_goals (go_wp2_with fail; go_meet; exact ⟨by simp [eqB, h2], below_drewN hB _⟩)
          · refine wp_region_quiet_lit (by kernel_rfl) (by kernel_rfl) ?_
            repeat (any_goals (first | go_big_quiet_step (fail) | quiet_step (fail) | (refine wpQuiet_step (fun K hK => ?_); go_simp; split <;> (refine hK _ ?_; clear hK K))))
            all_goals (refine wpQuiet_nil ?_; intro _ hw'; obtain ⟨nq, hw''⟩ := hw'; subst hw'')
            all_goals (go_wp2_with fail; go_meet; exact ⟨by simp [eqB, h1], below_drewN hB _⟩)
        case rest =>
          obtain ⟨rfl, hB'⟩ := hcut
          cases hbad : eqB x1 y1 x2 y2
          · have heq : ¬ (x1 = x2 ∧ y1 = y2) := by simpa [eqB] using hbad
            have HEQ := Lib.hid heq
            clear heq
            go_wp2
            go_ret
            exact ⟨by rw [HFIN.out, HF.out, HD1.out, HD2.out, eqL, if_neg HEQ.out]; rfl, hB'⟩
          · have heq : x1 = x2 ∧ y1 = y2 := by simpa [eqB] using hbad
            have HEQ := Lib.hid heq
            clear heq
            go_wp2
            go_roundg (n - (k + 1))
            case measure => have := HG.out; omega
            case rel => exact ⟨k + 1, by omega, rfl, by go_num, hB', by rw [HF.out, HD1.out, HD2.out, eqL, if_pos HEQ.out]⟩
      · go_wp2
        go_ret
        exact ⟨by rw [HFIN.out, HF.out, List.drop_eq_nil_of_le (by have := HN.out; omega)]; rfl, hB⟩
  · have hne : ((n : Int) != (m : Int)) = true := by simp; omega
    have hfin : sameF a b = false := by
      simp only [sameF, decide_eq_false_iff_not]
      rintro rfl
      omega
    have HU := Lib.hid hu
    have HV := Lib.hid hv
    have HN := Lib.hid hn
    have HMB := Lib.hid hmb
    have HFIN := Lib.hid hfin
    clear hu hv hn hmb hfin
    go_enter Tryd.func42, Tryd.ntmps42
    go_wp2
    go_ret
    exact ⟨by rw [HFIN.out]; rfl, Below.refl _ _⟩
end Go.Proofs.YticdfbhbbapbdaaDoor
