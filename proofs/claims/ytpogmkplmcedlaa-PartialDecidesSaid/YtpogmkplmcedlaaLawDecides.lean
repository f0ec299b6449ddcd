/- The walk of stratagemlaw06.PartialDecides. -/
import Derived.Test.YtpogmkplmcedlaaWide
import Derived.Test.YtpogmkplmcedlaaMinimal
import Derived.Test.YtpogmkplmcedlaaLawMakes
namespace Go.Proofs.Ytpogmkplmcedlaa
open Go.RowKit


set_option maxHeartbeats 4000000 in
set_option maxRecDepth 100000 in
theorem lawDecides_calls (sv rv lv : Value) (vars : List Int) (r : List Fact) (list : List (List Fact)) (steps : Int) (w : World) (hs : IntsAt w sv vars) (hr : FactsAt w rv r) (hl : ListsAt w lv list) (hst : steps ≤ 9223372036854775807) :
    Calls Try.prog 8 #[.agg #[sv, rv, lv, .int .i64 steps]] w fun e w' => e = .returned (.bool true) ∧ Below w.heap.size w w' := by
  obtain ⟨A, n, c, rfl, hn, hm⟩ := hl.form
  obtain ⟨sA, sn, sc, rfl, hsn, hsm⟩ := hs.form
  obtain ⟨rA, rn, rc, rfl, hrn, hrm⟩ := hr.form
  obtain ⟨W0, hW0⟩ : ∃ W0, W0 = w.alloc (.cells #[.slice sA sn sc, .slice rA rn rc, .slice A n c, .int .i64 steps] 47) := ⟨_, rfl⟩
  have hBW : Below w.heap.size w W0 := by rw [hW0]; exact belowA (Below.refl _ _) _
  have p0 : W0.cell? ⟨w.heap.size, 0, none⟩ = some (.slice sA sn sc) := by rw [hW0]; simp
  have p1 : W0.cell? ⟨w.heap.size, 1, none⟩ = some (.slice rA rn rc) := by rw [hW0]; simp
  have p2 : W0.cell? ⟨w.heap.size, 2, none⟩ = some (.slice A n c) := by rw [hW0]; simp
  have p3 : W0.cell? ⟨w.heap.size, 3, none⟩ = some (.int .i64 steps) := by rw [hW0]; simp
  have hs0 := hs.keep hBW
  have hr0 := hr.keep hBW
  have hl0 := hl.keep hBW
  have hwi := fun (W : World) (hb : Below W0.heap.size W0 W) => wide_calls _ vars W (hs0.keep hb)
  have hmv := fun (W : World) (hb : Below W0.heap.size W0 W) => manyV_calls _ vars 512 W (hs0.keep hb) (by omega) (by omega)
  have hma := fun (W : World) (hb : Below W0.heap.size W0 W) => many_calls _ list W (hl0.keep hb)
  have hb0 : Below W0.heap.size W0 W0 := Below.refl _ _
  generalize manyV 512 1 vars = mv at hmv
  generalize manyF list = mf at hma
  have hBo : ∀ W : World, Below W0.heap.size W0 W → Below w.heap.size w W := fun W hb => belowT hBW hb
  obtain ⟨cv, hcv⟩ : ∃ cv, coverF vars r list steps = cv := ⟨_, rfl⟩
  by_cases h9 : (9 : Int) < sn
  · clear hwi hmv hma
    have HS := Lib.hid hs
    have HR := Lib.hid hr
    have HL := Lib.hid hl
    have HN := Lib.hid hn
    have HSN := Lib.hid hsn
    have HRN := Lib.hid hrn
    have HS0 := Lib.hid hs0
    have HR0 := Lib.hid hr0
    have HL0 := Lib.hid hl0
    have HB0 := Lib.hid hb0
    have HBW := Lib.hid hBW
    have HBO := Lib.hid hBo
    have HW0 := Lib.hid hW0
    have HCV := Lib.hid hcv
    clear hs hr hl hn hsn hrn hs0 hr0 hl0 hb0 hBW hBo hW0 hcv
    go_enter Try.func8, Try.ntmps8
    go_upto_region 1 with fail
    rw [← HW0.out]
    go_wp2_with (first
      | (go_at_call 26; refine (HWI.out _ HB0.out).mono ?_; rintro e w1 ⟨rfl, hb1⟩; have HB1 := Lib.hid (belowT HB0.out hb1); have q0 := kept HB1.out p0; have q1 := kept HB1.out p1; have q2 := kept HB1.out p2; have q3 := kept HB1.out p3; clear hb1)
      | (go_at_call 27; refine (HMV.out _ HB1.out).mono ?_; rintro e w2 ⟨rfl, hb2⟩; have HB2 := Lib.hid (belowT HB1.out hb2); have r0 := kept HB2.out p0; have r1 := kept HB2.out p1; have r2 := kept HB2.out p2; have r3 := kept HB2.out p3; clear hb2)
      | (go_at_call 18; refine (HMA.out _ HB2.out).mono ?_; rintro e w3 ⟨rfl, hb3⟩; have HB3 := Lib.hid (belowT HB2.out hb3); have s0 := kept HB3.out p0; have s1 := kept HB3.out p1; have s2 := kept HB3.out p2; have s3 := kept HB3.out p3; clear hb3)
      | (go_at_call 9; refine (awake_calls _).mono ?_; rintro e w4 ⟨rfl, hb4⟩; have HB4 := Lib.hid (belowT HB0.out hb4); have t0 := kept HB4.out p0; have t1 := kept HB4.out p1; have t2 := kept HB4.out p2; have t3 := kept HB4.out p3; clear hb4)
      | (go_at_call 28; refine (HCO.out _ HB4.out).mono ?_; rintro e w5 ⟨rfl, hb5⟩; have HB5 := Lib.hid (belowT HB4.out hb5); have a0 := kept HB5.out p0; have a1 := kept HB5.out p1; have a2 := kept HB5.out p2; have a3 := kept HB5.out p3; clear hb5)
      | (go_at_call 29; refine (HRC.out _ HB5.out).mono ?_; rintro e w6 ⟨rfl, hb6⟩; have HB6 := Lib.hid (belowT HB5.out hb6); clear hb6)
      | (go_at_call 12; refine (num_calls _ _).mono ?_; rintro e wn ⟨rfl, rfl⟩))
    go_ret
    exact ⟨rfl, HBO.out _ HB4.out⟩
  · cases hwf : wideF vars
    · rw [hwf] at hwi
      have hco := fun (W : World) (hb : Below W0.heap.size W0 W) => covered_calls _ _ _ vars r list steps W (hs0.keep hb) (hr0.keep hb) (hl0.keep hb) (by omega) (wide_prod hwf) hst
      have hrc := fun (W : World) (hb : Below W0.heap.size W0 W) => rcovered_calls _ _ _ vars r list steps W (hs0.keep hb) (hr0.keep hb) (hl0.keep hb) (by omega) (wide_prod hwf) hst
      rw [hcv] at hco hrc
      obtain ⟨c1, c2, c3⟩ := cv
      simp only at hco hrc
      by_cases hmv1 : 512 < mv
      · have HWI := Lib.hid hwi
        have HMV := Lib.hid hmv
        have HMA := Lib.hid hma
        have HCO := Lib.hid hco
        have HRC := Lib.hid hrc
        have HWF := Lib.hid hwf
        clear hwi hmv hma hco hrc hwf
        have HS := Lib.hid hs
        have HR := Lib.hid hr
        have HL := Lib.hid hl
        have HN := Lib.hid hn
        have HSN := Lib.hid hsn
        have HRN := Lib.hid hrn
        have HS0 := Lib.hid hs0
        have HR0 := Lib.hid hr0
        have HL0 := Lib.hid hl0
        have HB0 := Lib.hid hb0
        have HBW := Lib.hid hBW
        have HBO := Lib.hid hBo
        have HW0 := Lib.hid hW0
        have HCV := Lib.hid hcv
        clear hs hr hl hn hsn hrn hs0 hr0 hl0 hb0 hBW hBo hW0 hcv
        go_enter Try.func8, Try.ntmps8
        go_upto_region 1 with fail
        rw [← HW0.out]
        go_wp2_with (first
          | (go_at_call 26; refine (HWI.out _ HB0.out).mono ?_; rintro e w1 ⟨rfl, hb1⟩; have HB1 := Lib.hid (belowT HB0.out hb1); have q0 := kept HB1.out p0; have q1 := kept HB1.out p1; have q2 := kept HB1.out p2; have q3 := kept HB1.out p3; clear hb1)
          | (go_at_call 27; refine (HMV.out _ HB1.out).mono ?_; rintro e w2 ⟨rfl, hb2⟩; have HB2 := Lib.hid (belowT HB1.out hb2); have r0 := kept HB2.out p0; have r1 := kept HB2.out p1; have r2 := kept HB2.out p2; have r3 := kept HB2.out p3; clear hb2)
          | (go_at_call 18; refine (HMA.out _ HB2.out).mono ?_; rintro e w3 ⟨rfl, hb3⟩; have HB3 := Lib.hid (belowT HB2.out hb3); have s0 := kept HB3.out p0; have s1 := kept HB3.out p1; have s2 := kept HB3.out p2; have s3 := kept HB3.out p3; clear hb3)
          | (go_at_call 9; refine (awake_calls _).mono ?_; rintro e w4 ⟨rfl, hb4⟩; have HB4 := Lib.hid (belowT HB2.out hb4); have t0 := kept HB4.out p0; have t1 := kept HB4.out p1; have t2 := kept HB4.out p2; have t3 := kept HB4.out p3; clear hb4)
          | (go_at_call 28; refine (HCO.out _ HB4.out).mono ?_; rintro e w5 ⟨rfl, hb5⟩; have HB5 := Lib.hid (belowT HB4.out hb5); have a0 := kept HB5.out p0; have a1 := kept HB5.out p1; have a2 := kept HB5.out p2; have a3 := kept HB5.out p3; clear hb5)
          | (go_at_call 29; refine (HRC.out _ HB5.out).mono ?_; rintro e w6 ⟨rfl, hb6⟩; have HB6 := Lib.hid (belowT HB5.out hb6); clear hb6)
          | (go_at_call 12; refine (num_calls _ _).mono ?_; rintro e wn ⟨rfl, rfl⟩))
        go_ret
        exact ⟨rfl, HBO.out _ HB4.out⟩
      · by_cases hr50 : (50 : Int) < rn
        · have HWI := Lib.hid hwi
          have HMV := Lib.hid hmv
          have HMA := Lib.hid hma
          have HCO := Lib.hid hco
          have HRC := Lib.hid hrc
          have HWF := Lib.hid hwf
          clear hwi hmv hma hco hrc hwf
          have HS := Lib.hid hs
          have HR := Lib.hid hr
          have HL := Lib.hid hl
          have HN := Lib.hid hn
          have HSN := Lib.hid hsn
          have HRN := Lib.hid hrn
          have HS0 := Lib.hid hs0
          have HR0 := Lib.hid hr0
          have HL0 := Lib.hid hl0
          have HB0 := Lib.hid hb0
          have HBW := Lib.hid hBW
          have HBO := Lib.hid hBo
          have HW0 := Lib.hid hW0
          have HCV := Lib.hid hcv
          clear hs hr hl hn hsn hrn hs0 hr0 hl0 hb0 hBW hBo hW0 hcv
          go_enter Try.func8, Try.ntmps8
          go_upto_region 1 with fail
          rw [← HW0.out]
          go_wp2_with (first
            | (go_at_call 26; refine (HWI.out _ HB0.out).mono ?_; rintro e w1 ⟨rfl, hb1⟩; have HB1 := Lib.hid (belowT HB0.out hb1); have q0 := kept HB1.out p0; have q1 := kept HB1.out p1; have q2 := kept HB1.out p2; have q3 := kept HB1.out p3; clear hb1)
            | (go_at_call 27; refine (HMV.out _ HB1.out).mono ?_; rintro e w2 ⟨rfl, hb2⟩; have HB2 := Lib.hid (belowT HB1.out hb2); have r0 := kept HB2.out p0; have r1 := kept HB2.out p1; have r2 := kept HB2.out p2; have r3 := kept HB2.out p3; clear hb2)
            | (go_at_call 18; refine (HMA.out _ HB2.out).mono ?_; rintro e w3 ⟨rfl, hb3⟩; have HB3 := Lib.hid (belowT HB2.out hb3); have s0 := kept HB3.out p0; have s1 := kept HB3.out p1; have s2 := kept HB3.out p2; have s3 := kept HB3.out p3; clear hb3)
            | (go_at_call 9; refine (awake_calls _).mono ?_; rintro e w4 ⟨rfl, hb4⟩; have HB4 := Lib.hid (belowT HB2.out hb4); have t0 := kept HB4.out p0; have t1 := kept HB4.out p1; have t2 := kept HB4.out p2; have t3 := kept HB4.out p3; clear hb4)
            | (go_at_call 28; refine (HCO.out _ HB4.out).mono ?_; rintro e w5 ⟨rfl, hb5⟩; have HB5 := Lib.hid (belowT HB4.out hb5); have a0 := kept HB5.out p0; have a1 := kept HB5.out p1; have a2 := kept HB5.out p2; have a3 := kept HB5.out p3; clear hb5)
            | (go_at_call 29; refine (HRC.out _ HB5.out).mono ?_; rintro e w6 ⟨rfl, hb6⟩; have HB6 := Lib.hid (belowT HB5.out hb6); clear hb6)
            | (go_at_call 12; refine (num_calls _ _).mono ?_; rintro e wn ⟨rfl, rfl⟩))
          go_ret
          exact ⟨rfl, HBO.out _ HB4.out⟩
        · cases mf
          · have HWI := Lib.hid hwi
            have HMV := Lib.hid hmv
            have HMA := Lib.hid hma
            have HCO := Lib.hid hco
            have HRC := Lib.hid hrc
            have HWF := Lib.hid hwf
            clear hwi hmv hma hco hrc hwf
            have HS := Lib.hid hs
            have HR := Lib.hid hr
            have HL := Lib.hid hl
            have HN := Lib.hid hn
            have HSN := Lib.hid hsn
            have HRN := Lib.hid hrn
            have HS0 := Lib.hid hs0
            have HR0 := Lib.hid hr0
            have HL0 := Lib.hid hl0
            have HB0 := Lib.hid hb0
            have HBW := Lib.hid hBW
            have HBO := Lib.hid hBo
            have HW0 := Lib.hid hW0
            have HCV := Lib.hid hcv
            clear hs hr hl hn hsn hrn hs0 hr0 hl0 hb0 hBW hBo hW0 hcv
            go_enter Try.func8, Try.ntmps8
            go_upto_region 1 with fail
            rw [← HW0.out]
            go_wp2_with (first
              | (go_at_call 26; refine (HWI.out _ HB0.out).mono ?_; rintro e w1 ⟨rfl, hb1⟩; have HB1 := Lib.hid (belowT HB0.out hb1); have q0 := kept HB1.out p0; have q1 := kept HB1.out p1; have q2 := kept HB1.out p2; have q3 := kept HB1.out p3; clear hb1)
              | (go_at_call 27; refine (HMV.out _ HB1.out).mono ?_; rintro e w2 ⟨rfl, hb2⟩; have HB2 := Lib.hid (belowT HB1.out hb2); have r0 := kept HB2.out p0; have r1 := kept HB2.out p1; have r2 := kept HB2.out p2; have r3 := kept HB2.out p3; clear hb2)
              | (go_at_call 18; refine (HMA.out _ HB2.out).mono ?_; rintro e w3 ⟨rfl, hb3⟩; have HB3 := Lib.hid (belowT HB2.out hb3); have s0 := kept HB3.out p0; have s1 := kept HB3.out p1; have s2 := kept HB3.out p2; have s3 := kept HB3.out p3; clear hb3)
              | (go_at_call 9; refine (awake_calls _).mono ?_; rintro e w4 ⟨rfl, hb4⟩; have HB4 := Lib.hid (belowT HB3.out hb4); have t0 := kept HB4.out p0; have t1 := kept HB4.out p1; have t2 := kept HB4.out p2; have t3 := kept HB4.out p3; clear hb4)
              | (go_at_call 28; refine (HCO.out _ HB4.out).mono ?_; rintro e w5 ⟨rfl, hb5⟩; have HB5 := Lib.hid (belowT HB4.out hb5); have a0 := kept HB5.out p0; have a1 := kept HB5.out p1; have a2 := kept HB5.out p2; have a3 := kept HB5.out p3; clear hb5)
              | (go_at_call 29; refine (HRC.out _ HB5.out).mono ?_; rintro e w6 ⟨rfl, hb6⟩; have HB6 := Lib.hid (belowT HB5.out hb6); clear hb6)
              | (go_at_call 12; refine (num_calls _ _).mono ?_; rintro e wn ⟨rfl, rfl⟩))
            go_ret
            exact ⟨by simp, HBO.out _ HB6.out⟩
          · have HWI := Lib.hid hwi
            have HMV := Lib.hid hmv
            have HMA := Lib.hid hma
            have HCO := Lib.hid hco
            have HRC := Lib.hid hrc
            have HWF := Lib.hid hwf
            clear hwi hmv hma hco hrc hwf
            have HS := Lib.hid hs
            have HR := Lib.hid hr
            have HL := Lib.hid hl
            have HN := Lib.hid hn
            have HSN := Lib.hid hsn
            have HRN := Lib.hid hrn
            have HS0 := Lib.hid hs0
            have HR0 := Lib.hid hr0
            have HL0 := Lib.hid hl0
            have HB0 := Lib.hid hb0
            have HBW := Lib.hid hBW
            have HBO := Lib.hid hBo
            have HW0 := Lib.hid hW0
            have HCV := Lib.hid hcv
            clear hs hr hl hn hsn hrn hs0 hr0 hl0 hb0 hBW hBo hW0 hcv
            go_enter Try.func8, Try.ntmps8
            go_upto_region 1 with fail
            rw [← HW0.out]
            go_wp2_with (first
              | (go_at_call 26; refine (HWI.out _ HB0.out).mono ?_; rintro e w1 ⟨rfl, hb1⟩; have HB1 := Lib.hid (belowT HB0.out hb1); have q0 := kept HB1.out p0; have q1 := kept HB1.out p1; have q2 := kept HB1.out p2; have q3 := kept HB1.out p3; clear hb1)
              | (go_at_call 27; refine (HMV.out _ HB1.out).mono ?_; rintro e w2 ⟨rfl, hb2⟩; have HB2 := Lib.hid (belowT HB1.out hb2); have r0 := kept HB2.out p0; have r1 := kept HB2.out p1; have r2 := kept HB2.out p2; have r3 := kept HB2.out p3; clear hb2)
              | (go_at_call 18; refine (HMA.out _ HB2.out).mono ?_; rintro e w3 ⟨rfl, hb3⟩; have HB3 := Lib.hid (belowT HB2.out hb3); have s0 := kept HB3.out p0; have s1 := kept HB3.out p1; have s2 := kept HB3.out p2; have s3 := kept HB3.out p3; clear hb3)
              | (go_at_call 9; refine (awake_calls _).mono ?_; rintro e w4 ⟨rfl, hb4⟩; have HB4 := Lib.hid (belowT HB3.out hb4); have t0 := kept HB4.out p0; have t1 := kept HB4.out p1; have t2 := kept HB4.out p2; have t3 := kept HB4.out p3; clear hb4)
              | (go_at_call 28; refine (HCO.out _ HB4.out).mono ?_; rintro e w5 ⟨rfl, hb5⟩; have HB5 := Lib.hid (belowT HB4.out hb5); have a0 := kept HB5.out p0; have a1 := kept HB5.out p1; have a2 := kept HB5.out p2; have a3 := kept HB5.out p3; clear hb5)
              | (go_at_call 29; refine (HRC.out _ HB5.out).mono ?_; rintro e w6 ⟨rfl, hb6⟩; have HB6 := Lib.hid (belowT HB5.out hb6); clear hb6)
              | (go_at_call 12; refine (num_calls _ _).mono ?_; rintro e wn ⟨rfl, rfl⟩))
            go_ret
            exact ⟨rfl, HBO.out _ HB4.out⟩
    · rw [hwf] at hwi
      have HWI := Lib.hid hwi
      have HMV := Lib.hid hmv
      have HMA := Lib.hid hma
      have HWF := Lib.hid hwf
      clear hwi hmv hma hwf
      have HS := Lib.hid hs
      have HR := Lib.hid hr
      have HL := Lib.hid hl
      have HN := Lib.hid hn
      have HSN := Lib.hid hsn
      have HRN := Lib.hid hrn
      have HS0 := Lib.hid hs0
      have HR0 := Lib.hid hr0
      have HL0 := Lib.hid hl0
      have HB0 := Lib.hid hb0
      have HBW := Lib.hid hBW
      have HBO := Lib.hid hBo
      have HW0 := Lib.hid hW0
      have HCV := Lib.hid hcv
      clear hs hr hl hn hsn hrn hs0 hr0 hl0 hb0 hBW hBo hW0 hcv
      go_enter Try.func8, Try.ntmps8
      go_upto_region 1 with fail
      rw [← HW0.out]
      go_wp2_with (first
        | (go_at_call 26; refine (HWI.out _ HB0.out).mono ?_; rintro e w1 ⟨rfl, hb1⟩; have HB1 := Lib.hid (belowT HB0.out hb1); have q0 := kept HB1.out p0; have q1 := kept HB1.out p1; have q2 := kept HB1.out p2; have q3 := kept HB1.out p3; clear hb1)
        | (go_at_call 27; refine (HMV.out _ HB1.out).mono ?_; rintro e w2 ⟨rfl, hb2⟩; have HB2 := Lib.hid (belowT HB1.out hb2); have r0 := kept HB2.out p0; have r1 := kept HB2.out p1; have r2 := kept HB2.out p2; have r3 := kept HB2.out p3; clear hb2)
        | (go_at_call 18; refine (HMA.out _ HB2.out).mono ?_; rintro e w3 ⟨rfl, hb3⟩; have HB3 := Lib.hid (belowT HB2.out hb3); have s0 := kept HB3.out p0; have s1 := kept HB3.out p1; have s2 := kept HB3.out p2; have s3 := kept HB3.out p3; clear hb3)
        | (go_at_call 9; refine (awake_calls _).mono ?_; rintro e w4 ⟨rfl, hb4⟩; have HB4 := Lib.hid (belowT HB1.out hb4); have t0 := kept HB4.out p0; have t1 := kept HB4.out p1; have t2 := kept HB4.out p2; have t3 := kept HB4.out p3; clear hb4)
        | (go_at_call 28; refine (HCO.out _ HB4.out).mono ?_; rintro e w5 ⟨rfl, hb5⟩; have HB5 := Lib.hid (belowT HB4.out hb5); have a0 := kept HB5.out p0; have a1 := kept HB5.out p1; have a2 := kept HB5.out p2; have a3 := kept HB5.out p3; clear hb5)
        | (go_at_call 29; refine (HRC.out _ HB5.out).mono ?_; rintro e w6 ⟨rfl, hb6⟩; have HB6 := Lib.hid (belowT HB5.out hb6); clear hb6)
        | (go_at_call 12; refine (num_calls _ _).mono ?_; rintro e wn ⟨rfl, rfl⟩))
      go_ret
      exact ⟨rfl, HBO.out _ HB4.out⟩
end Go.Proofs.Ytpogmkplmcedlaa
