/- stratagemref30.Less, stratagemlaw30.Same. -/
import Derived.Test.YticdfbhbbapbdaaDoorStableS
import Derived.Test.YticdfbhbbapbdaaDoorFacts
namespace Go.Proofs.YticdfbhbbapbdaaDoor
open Go.RowKit

def lessL : List Fact → List Fact → Bool
  | x :: r, y :: s => if x.1 ≠ y.1 then decide (x.1 < y.1) else if x.2 ≠ y.2 then decide (x.2 < y.2) else lessL r s
  | a, b => decide (a.length < b.length)
theorem lessL_iff : ∀ (a b : List Fact), lessL a b = true ↔ LtL a b
  | [], [] => by simp [lessL, LtL]
  | [], _ :: _ => by simp [lessL, LtL]
  | _ :: _, [] => by simp [lessL, LtL]
  | x :: r, y :: s => by
    rw [lessL, LtL]
    by_cases h1 : x.1 = y.1
    · rw [if_neg (by simpa using h1)]
      by_cases h2 : x.2 = y.2
      · rw [if_neg (by simpa using h2), lessL_iff r s]
        have : x = y := Prod.ext h1 h2
        subst this
        simp
      · rw [if_pos h2, decide_eq_true_eq]
        have : x ≠ y := fun e => h2 (by rw [e])
        simp [this, h1]
    · rw [if_pos h1, decide_eq_true_eq]
      have : x ≠ y := fun e => h1 (by rw [e])
      simp [this, h1]

set_option maxHeartbeats 2000000 in
theorem less_calls (u v : Value) (a b : List Fact) (w : World) (hu : FactsAt w u a) (hv : FactsAt w v b) :
    Calls Tryd.prog 49 #[u, v] w fun e w' => e = .returned (.bool (lessL a b)) ∧ Below w.heap.size w w' := by
  obtain ⟨A, n, c, rfl, hn, hm⟩ := hu.form
  obtain ⟨A', n', c', rfl, hn', hm'⟩ := hv.form
  obtain ⟨D, hD⟩ : ∃ D, lessL a b = D := ⟨_, rfl⟩
  rw [hD]
  have HU := Lib.hid hu
  have HV := Lib.hid hv
  have HN := Lib.hid hn
  have HN' := Lib.hid hn'
  have HD := Lib.hid hD
  clear hu hv hn hn' hD
  go_enter Tryd.func49, Tryd.ntmps49
  go_wp2
  go_loopg [5] n (fun g i wr => ∃ k : Nat, k ≤ n ∧ k ≤ n' ∧ g = n - k ∧ i = .int .i64 k ∧ Below w.heap.size w wr ∧ D = lessL (a.drop k) (b.drop k))
  case atStart => exact ⟨0, Nat.zero_le _, Nat.zero_le _, by omega, rfl, Below.refl _ _, HD.out.symm⟩
  case round =>
    obtain ⟨k, hk, hk', hg, rfl, hB, hF⟩ := hrel
    have HG := Lib.hid hg
    have HF := Lib.hid hF
    clear hg hF
    by_cases hlt : k < n
    · obtain ⟨bb, off, x1, x2, rfl, c0, c1, hx, hd⟩ := (HU.out.keep hB).at hlt
      by_cases hlt' : k < n'
      · obtain ⟨bb', off', y1, y2, rfl, d0, d1, hy, hd'⟩ := (HV.out.keep hB).at hlt'
        have hst : D = if x1 ≠ y1 then decide (x1 < y1) else if x2 ≠ y2 then decide (x2 < y2) else lessL (a.drop (k + 1)) (b.drop (k + 1)) := by rw [HF.out, hd, hd', lessL]
        have HX := Lib.hid hx
        have HD2 := Lib.hid hd
        have HY := Lib.hid hy
        have HD3 := Lib.hid hd'
        clear hx hd hy hd'
        by_cases h1 : x1 = y1
        · rw [if_neg (by simpa using h1)] at hst
          have hb1 : (x1 != y1) = false := by simp [h1]
          by_cases h2 : x2 = y2
          · rw [if_neg (by simpa using h2)] at hst
            have hb2 : (x2 != y2) = false := by simp [h2]
            have HST := Lib.hid hst
            have H1 := Lib.hid h1
            have H2 := Lib.hid h2
            clear hst h1 h2
            go_wp2_with fail
            refine wp_region_quiet_lit (by kernel_rfl) (by kernel_rfl) ?_
            repeat (any_goals (first | go_big_quiet_step (fail) | quiet_step (fail) | (refine wpQuiet_step (fun K hK => ?_); go_simp; split <;> (refine hK _ ?_; clear hK K))))
            all_goals (refine wpQuiet_nil ?_; intro _ hw'; obtain ⟨nq, hw''⟩ := hw'; subst hw'')
            go_wp2_with fail
            refine wp_region_quiet_lit (by kernel_rfl) (by kernel_rfl) ?_
            repeat (any_goals (first | go_big_quiet_step (fail) | quiet_step (fail) | (refine wpQuiet_step (fun K hK => ?_); go_simp; split <;> (refine hK _ ?_; clear hK K))))
            all_goals (refine wpQuiet_nil ?_; intro _ hw'; obtain ⟨nq, hw''⟩ := hw'; subst hw'')
            go_wp2_with fail
            go_roundg (n - (k + 1))
            case measure => have := HG.out; omega
            case rel => exact ⟨k + 1, by omega, by omega, rfl, by go_num, by first | exact below_drewN hB _ | exact below_drewN (below_drewN hB _) _, HST.out⟩
          · rw [if_pos h2] at hst
            have hb2 : (x2 != y2) = true := by simp [h2]
            have HST := Lib.hid hst
            have H1 := Lib.hid h1
            clear hst h1
            go_wp2_with fail
            refine wp_region_quiet_lit (by kernel_rfl) (by kernel_rfl) ?_
            repeat (any_goals (first | go_big_quiet_step (fail) | quiet_step (fail) | (refine wpQuiet_step (fun K hK => ?_); go_simp; split <;> (refine hK _ ?_; clear hK K))))
            all_goals (refine wpQuiet_nil ?_; intro _ hw'; obtain ⟨nq, hw''⟩ := hw'; subst hw'')
            go_wp2_with fail
            refine wp_region_quiet_lit (by kernel_rfl) (by kernel_rfl) ?_
            repeat (any_goals (first | go_big_quiet_step (fail) | quiet_step (fail) | (refine wpQuiet_step (fun K hK => ?_); go_simp; split <;> (refine hK _ ?_; clear hK K))))
            all_goals (refine wpQuiet_nil ?_; intro _ hw'; obtain ⟨nq, hw''⟩ := hw'; subst hw'')
            go_wp2_with fail
            refine wp_region_quiet_lit (by kernel_rfl) (by kernel_rfl) ?_
            repeat (any_goals (first | go_big_quiet_step (fail) | quiet_step (fail) | (refine wpQuiet_step (fun K hK => ?_); go_simp; split <;> (refine hK _ ?_; clear hK K))))
            all_goals (refine wpQuiet_nil ?_; intro _ hw'; obtain ⟨nq, hw''⟩ := hw'; subst hw'')
            go_wp2_with fail
            go_ret
            exact ⟨by rw [HST.out]; rfl, below_drewN (below_drewN (below_drewN hB _) _) _⟩
        · rw [if_pos h1] at hst
          have hb1 : (x1 != y1) = true := by simp [h1]
          have HST := Lib.hid hst
          clear hst
          go_wp2_with fail
          refine wp_region_quiet_lit (by kernel_rfl) (by kernel_rfl) ?_
          repeat (any_goals (first | go_big_quiet_step (fail) | quiet_step (fail) | (refine wpQuiet_step (fun K hK => ?_); go_simp; split <;> (refine hK _ ?_; clear hK K))))
          all_goals (refine wpQuiet_nil ?_; intro _ hw'; obtain ⟨nq, hw''⟩ := hw'; subst hw'')
          go_wp2_with fail
          refine wp_region_quiet_lit (by kernel_rfl) (by kernel_rfl) ?_
          repeat (any_goals (first | go_big_quiet_step (fail) | quiet_step (fail) | (refine wpQuiet_step (fun K hK => ?_); go_simp; split <;> (refine hK _ ?_; clear hK K))))
          all_goals (refine wpQuiet_nil ?_; intro _ hw'; obtain ⟨nq, hw''⟩ := hw'; subst hw'')
          go_wp2_with fail
          go_ret
          exact ⟨by rw [HST.out]; rfl, below_drewN (below_drewN hB _) _⟩
      · have hfin : D = decide ((n : Int) < (n' : Int)) := by
          have e : decide ((n : Int) < (n' : Int)) = false := by simp; omega
          rw [HF.out, hd, show b.drop k = [] from List.drop_eq_nil_of_le (by have := HN'.out; omega), e]
          simp [lessL]
        have HX := Lib.hid hx
        have HD2 := Lib.hid hd
        have HFIN := Lib.hid hfin
        clear hx hd hfin
        go_wp2_with fail
        go_ret
        exact ⟨by rw [HFIN.out]; first | rfl | simp, hB⟩
    · have hfin : D = decide ((n : Int) < (n' : Int)) := by
        have e1 : a.drop k = [] := List.drop_eq_nil_of_le (by have := HN.out; omega)
        rw [HF.out, e1]
        cases hb : b.drop k with
        | nil =>
          have : n' = k := by have := congrArg List.length hb; rw [List.length_drop] at this; have := HN'.out; simp at *; omega
          simp [lessL]; omega
        | cons y s =>
          have : k < n' := by have := congrArg List.length hb; rw [List.length_drop] at this; have := HN'.out; simp at *; omega
          simp [lessL]; omega
      have HFIN := Lib.hid hfin
      clear hfin
      go_wp2_with fail
      go_ret
      exact ⟨by rw [HFIN.out]; first | rfl | simp, hB⟩

def sameNL : List Nogood → List Nogood → Bool
  | x :: r, y :: s => decide (x.2 = y.2) && sameF x.1 y.1 && sameNL r s
  | _, _ => true
def sameC (b1 : Int) (l1 : List Nogood) (b2 : Int) (l2 : List Nogood) : Bool := decide (b1 = b2) && decide (l1.length = l2.length) && sameNL l1 l2
theorem sameNL_self (l : List Nogood) : sameNL l l = true := by
  induction l with
  | nil => rfl
  | cons x r ih => simp [sameNL, ih, sameF]
theorem sameC_self (b : Int) (l : List Nogood) : sameC b l b l = true := by simp [sameC, sameNL_self]
theorem sameNL_eq : ∀ (a b : List Nogood), a.length = b.length → sameNL a b = true → a = b
  | [], [], _, _ => rfl
  | [], _ :: _, h, _ => by simp at h
  | _ :: _, [], h, _ => by simp at h
  | x :: r, y :: s, h, hs => by
    rw [sameNL] at hs
    simp only [Bool.and_eq_true, decide_eq_true_eq, sameF] at hs
    rw [Prod.ext hs.1.2 hs.1.1, sameNL_eq r s (by simpa using h) hs.2]

set_option maxHeartbeats 4000000 in
set_option maxRecDepth 100000 in
theorem same_calls (b1 b2 : Int) (u v : Value) (a b : List Nogood) (w : World) (hu : NogoodsAt w u a) (hv : NogoodsAt w v b) :
    Calls Tryd.prog 22 #[.agg #[.int .i64 b1, u], .agg #[.int .i64 b2, v]] w fun e w' => e = .returned (.bool (sameC b1 a b2 b)) ∧ Below w.heap.size w w' := by
  obtain ⟨A, n, c, rfl, hn, hm⟩ := hu.form
  obtain ⟨A', n', c', rfl, hn', hm'⟩ := hv.form
  obtain ⟨W0, hW0⟩ : ∃ W0, W0 = (w.alloc (.cells #[.int .i64 b1, .slice A n c] 25)).alloc (.cells #[.int .i64 b2, .slice A' n' c'] 25) := ⟨_, rfl⟩
  have hBW : Below w.heap.size w W0 := by rw [hW0]; exact belowA (belowA (Below.refl _ _) _) _
  have p0 : W0.cell? ⟨w.heap.size, 0, none⟩ = some (.int .i64 b1) := by rw [hW0]; simp
  have p1 : W0.cell? ⟨w.heap.size, 1, none⟩ = some (.slice A n c) := by rw [hW0]; simp
  have p2 : W0.cell? ⟨w.heap.size + 1, 0, none⟩ = some (.int .i64 b2) := by rw [hW0]; simp
  have p3 : W0.cell? ⟨w.heap.size + 1, 1, none⟩ = some (.slice A' n' c') := by rw [hW0]; simp
  have hu0 := hu.keep hBW
  have hv0 := hv.keep hBW
  obtain ⟨D, hD⟩ : ∃ D, sameC b1 a b2 b = D := ⟨_, rfl⟩
  rw [hD]
  by_cases hbb : b1 = b2
  · by_cases hnn : n = n'
    · subst hbb hnn
      have hD0 : D = sameNL a b := by
        have : a.length = b.length := by omega
        rw [← hD]; simp [sameC, this]
      have HU := Lib.hid hu
      have HV := Lib.hid hv
      have HN := Lib.hid hn
      have HN' := Lib.hid hn'
      have HD := Lib.hid hD
      have HD0 := Lib.hid hD0
      have HW0 := Lib.hid hW0
      have HBW := Lib.hid hBW
      have HU0 := Lib.hid hu0
      have HV0 := Lib.hid hv0
      clear hu hv hn hn' hD hD0 hW0 hBW hu0 hv0
      go_enter Tryd.func22, Tryd.ntmps22
      go_upto_region 1 with fail
      rw [← HW0.out]
      go_wp2_with fail
      go_loopg [23] n (fun g i wr => ∃ k : Nat, k ≤ n ∧ g = n - k ∧ i = .int .i64 k ∧ Below W0.heap.size W0 wr ∧ D = sameNL (a.drop k) (b.drop k))
      case atStart => exact ⟨0, Nat.zero_le _, by omega, rfl, Below.refl _ _, HD0.out⟩
      case round =>
        obtain ⟨k, hk, hg, rfl, hB, hF⟩ := hrel
        have HG := Lib.hid hg
        have HF := Lib.hid hF
        clear hg hF
        have q1 := kept hB p1
        have q3 := kept hB p3
        by_cases hlt : k < n
        · obtain ⟨bb, off, xA, xn, xc, x, xd, rfl, c0, hxn, hxm, hxv, c1, hx, hd⟩ := (HU0.out.keep hB).at hlt
          obtain ⟨bb', off', yA, yn, yc, y, yd, rfl, d0, hyn, hym, hyv, d1, hy, hd'⟩ := (HV0.out.keep hB).at hlt
          have hb0 : Below wr.heap.size wr wr.drew := (Below.refl _ _).drew
          have hvc := bfacts_calls _ _ x y _ (hxv.keep hb0) (hyv.keep hb0)
          have hst : D = (decide (xd = yd) && sameF x y && sameNL (a.drop (k + 1)) (b.drop (k + 1))) := by rw [HF.out, hd, hd', sameNL]
          generalize sameF x y = t at hvc hst
          by_cases hdd : xd = yd
          · have hbe : (xd != yd) = false := by simp [hdd]
            have hst' : D = (t && sameNL (a.drop (k + 1)) (b.drop (k + 1))) := by rw [hst, decide_eq_true hdd, Bool.true_and]
            subst hdd
            have HX := Lib.hid hx
            have HD2 := Lib.hid hd
            have HXV := Lib.hid hxv
            have HY := Lib.hid hy
            have HD3 := Lib.hid hd'
            have HYV := Lib.hid hyv
            have HXN := Lib.hid hxn
            have HYN := Lib.hid hyn
            have HVC := Lib.hid hvc
            have HST := Lib.hid hst
            have HST' := Lib.hid hst'
            have HB0 := Lib.hid hb0
            clear hx hd hxv hy hd' hyv hxn hyn hvc hst hst' hb0
            go_upto_region 6 with fail
            go_cut [54] (fun z wx => z = .bool (!t) ∧ Below W0.heap.size W0 wx)
            case first =>
              go_region_held3 (fun w' => w'.cell? ⟨bb, off + k * 2, none⟩ = some (.slice xA xn xc) ∧ w'.cell? ⟨bb', off' + k * 2, none⟩ = some (.slice yA yn yc) ∧ w'.cell? ⟨bb, off + k * 2 + 1, none⟩ = some (.int .i64 xd) ∧ w'.cell? ⟨bb', off' + k * 2 + 1, none⟩ = some (.int .i64 xd) ∧ w'.cell? ⟨w.heap.size, 1, none⟩ = some (.slice (some ⟨bb, off, none⟩) n c) ∧ w'.cell? ⟨w.heap.size + 1, 1, none⟩ = some (.slice (some ⟨bb', off', none⟩) n c'))
                (first | exact ⟨r0, r1, r2, r3, r4, r5⟩ | exact ⟨c0, d0, c1, d1, q1, q3⟩)
                (first
                  | (go_at_call 42; refine HVC.out.mono ?_; rintro e w1 ⟨rfl, hb1⟩; have HB1 := Lib.hid (belowT hB (belowT HB0.out hb1)); have r0 := kept (belowT HB0.out hb1) c0; have r1 := kept (belowT HB0.out hb1) d0; have r2 := kept (belowT HB0.out hb1) c1; have r3 := kept (belowT HB0.out hb1) d1; have r4 := kept (belowT HB0.out hb1) q1; have r5 := kept (belowT HB0.out hb1) q3; clear hb1)
                  | fail)
              all_goals (go_wp2_with fail; go_meet; exact ⟨rfl, HB1.out⟩)
            case rest =>
              obtain ⟨rfl, hB'⟩ := hcut
              cases t
              · go_wp2
                go_ret
                exact ⟨by rw [HST'.out]; rfl, belowT HBW.out hB'⟩
              · go_wp2
                go_roundg (n - (k + 1))
                case measure => have := HG.out; omega
                case rel => exact ⟨k + 1, by omega, rfl, by go_num, hB', by rw [HST'.out]; rfl⟩
          · have hbe : (xd != yd) = true := by simp [hdd]
            have hst' : D = false := by rw [hst, decide_eq_false hdd]; rfl
            have HX := Lib.hid hx
            have HD2 := Lib.hid hd
            have HXV := Lib.hid hxv
            have HY := Lib.hid hy
            have HD3 := Lib.hid hd'
            have HYV := Lib.hid hyv
            have HXN := Lib.hid hxn
            have HYN := Lib.hid hyn
            have HVC := Lib.hid hvc
            have HST := Lib.hid hst
            have HST' := Lib.hid hst'
            have HB0 := Lib.hid hb0
            clear hx hd hxv hy hd' hyv hxn hyn hvc hst hst' hb0
            go_upto_region 6 with fail
            go_cut [54] (fun z wx => z = .bool true ∧ Below W0.heap.size W0 wx)
            case first =>
              refine wp_region_quiet_lit (by kernel_rfl) (by kernel_rfl) ?_
              repeat (any_goals (first | go_big_quiet_step (fail) | quiet_step (fail) | (refine wpQuiet_step (fun K hK => ?_); go_simp; split <;> (refine hK _ ?_; clear hK K))))
              all_goals (refine wpQuiet_nil ?_; intro _ hw'; obtain ⟨nq, hw''⟩ := hw'; subst hw'')
              all_goals (go_wp2_with fail; go_meet; exact ⟨rfl, below_drewN hB _⟩)
            case rest =>
              obtain ⟨rfl, hB'⟩ := hcut
              go_wp2
              go_ret
              exact ⟨by rw [HST'.out]; rfl, belowT HBW.out hB'⟩
        · have hfin : D = true := by rw [HF.out, List.drop_eq_nil_of_le (by have := HN.out; omega)]; simp [sameNL]
          have HFIN := Lib.hid hfin
          clear hfin
          go_wp2
          go_ret
          exact ⟨by rw [HFIN.out]; rfl, belowT HBW.out hB⟩
    · have hfin : D = false := by
        have : ¬ a.length = b.length := by omega
        rw [← hD]; simp [sameC, this]
      have hne : ((n : Int) != (n' : Int)) = true := by simp; omega
      have hbe : (b1 != b2) = false := by simp [hbb]
      subst hbb
      have HU := Lib.hid hu
      have HV := Lib.hid hv
      have HN := Lib.hid hn
      have HN' := Lib.hid hn'
      have HD := Lib.hid hD
      have HW0 := Lib.hid hW0
      have HBW := Lib.hid hBW
      have HU0 := Lib.hid hu0
      have HV0 := Lib.hid hv0
      have HFIN := Lib.hid hfin
      clear hu hv hn hn' hD hW0 hBW hu0 hv0 hfin
      go_enter Tryd.func22, Tryd.ntmps22
      go_upto_region 1 with fail
      rw [← HW0.out]
      go_wp2_with fail
      go_ret
      exact ⟨by rw [HFIN.out]; rfl, HBW.out⟩
  · have hfin : D = false := by rw [← hD]; simp [sameC, hbb]
    have hbe : (b1 != b2) = true := by simp [hbb]
    have HU := Lib.hid hu
    have HV := Lib.hid hv
    have HN := Lib.hid hn
    have HN' := Lib.hid hn'
    have HD := Lib.hid hD
    have HW0 := Lib.hid hW0
    have HBW := Lib.hid hBW
    have HU0 := Lib.hid hu0
    have HV0 := Lib.hid hv0
    have HFIN := Lib.hid hfin
    clear hu hv hn hn' hD hW0 hBW hu0 hv0 hfin
    go_enter Tryd.func22, Tryd.ntmps22
    go_upto_region 1 with fail
    rw [← HW0.out]
    go_wp2_with fail
    go_ret
    exact ⟨by rw [HFIN.out]; rfl, HBW.out⟩
end Go.Proofs.YticdfbhbbapbdaaDoor
