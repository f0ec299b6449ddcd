/- The walks of stratagemlaw30.CertificateClaims and CertificateChecks. -/
import Derived.Test.YticdfbhbbapbdaaDoorClaims
import Derived.Test.YticdfbhbbapbdaaDoorAwake30
namespace Go.Proofs.YticdfbhbbapbdaaDoor
open Go.RowKit

set_option maxHeartbeats 1000000 in
theorem lawClaims_calls (bd : Int) (v sv : Value) (l : List Nogood) (s : List Int) (d : Int) (w : World) (hv : NogoodsAt w v l) (hs : IntsAt w sv s) (htab : TabOk w) :
    Calls Tryd.prog 5 #[.agg #[.int .i64 bd, v], sv, .int .i64 d] w fun e w' => e = .returned (.bool true) ∧ Below w.heap.size w w' := by
  obtain ⟨A, n, c, rfl, hn, hm⟩ := hv.form
  obtain ⟨sA, sn, sc, rfl, hsn, hsm⟩ := hs.form
  have hb0 : Below w.heap.size w (w.alloc (.cells #[.int .i64 bd, .slice A n c] 25)) := belowA (Below.refl _ _) _
  have hlc := large_calls bd _ l _ (hv.keep hb0)
  have HV := Lib.hid hv
  have HN := Lib.hid hn
  have HS := Lib.hid hs
  have HSN := Lib.hid hsn
  have HTAB := Lib.hid htab
  have HB0 := Lib.hid hb0
  clear hv hn hs hsn htab hb0
  cases hla : largeF l
  · rw [hla] at hlc
    have HLA := Lib.hid hla
    have HLC := Lib.hid hlc
    clear hla hlc
    by_cases h100 : 100 < sn
    · go_enter Tryd.func5, Tryd.ntmps5
      go_wp2_with (first
        | (go_at_call 15; refine HLC.out.mono ?_; rintro e w1 ⟨rfl, hb1⟩; have HB1 := Lib.hid (belowT HB0.out hb1); clear hb1)
        | (go_at_call 11; refine (awake_calls _ (HTAB.out.keep HB1.out)).mono ?_; rintro e w2 ⟨rfl, hb2⟩))
      go_ret
      exact ⟨rfl, belowT HB1.out hb2⟩
    · have hq0 : (w.alloc (.cells #[.int .i64 bd, .slice A n c] 25)).cell? ⟨w.heap.size, 0, none⟩ = some (.int .i64 bd) := by simp
      have hq1 : (w.alloc (.cells #[.int .i64 bd, .slice A n c] 25)).cell? ⟨w.heap.size, 1, none⟩ = some (.slice A n c) := by simp
      have HQ0 := Lib.hid hq0
      have HQ1 := Lib.hid hq1
      clear hq0 hq1
      go_enter Tryd.func5, Tryd.ntmps5
      go_upto_region 3 with (first
        | (go_at_call 15; refine HLC.out.mono ?_; rintro e w1 ⟨rfl, hb1⟩; have HB1 := Lib.hid (belowT HB0.out hb1); have HC0 := Lib.hid (kept hb1 HQ0.out); have HC1 := Lib.hid (kept hb1 HQ1.out); clear hb1)
        | (go_at_call 11; refine (awake_calls _ (HTAB.out.keep HB1.out)).mono ?_; rintro e w2 ⟨rfl, hb2⟩; have HB2 := Lib.hid (belowT HB1.out hb2); have c0 := kept hb2 HC0.out; have c1 := kept hb2 HC1.out; clear hb2))
      have s0 : Below w2.heap.size w2 w2.drew := (Below.refl _ _).drew
      have hvk := HV.out.keep HB2.out
      have hsk := HS.out.keep HB2.out
      have S0 := Lib.hid s0
      have HVK := Lib.hid hvk
      have HSK := Lib.hid hsk
      clear s0 hvk hsk
      go_region_held3 (fun w' => w'.cell? ⟨w.heap.size, 0, none⟩ = some (.int .i64 bd) ∧ w'.cell? ⟨w.heap.size, 1, none⟩ = some (.slice A n c))
        (first | exact ⟨kept SB.out c0, kept SB.out c1⟩ | exact ⟨kept SA.out c0, kept SA.out c1⟩ | exact ⟨c0, c1⟩)
        (first
          | (go_at_call 18; refine (claims_calls bd _ _ l s d _ (HVK.out.keep S0.out) (HSK.out.keep S0.out)).mono ?_; rintro e wa ⟨rfl, hba⟩; have SA := Lib.hid (belowT S0.out hba); clear hba)
          | (go_at_call 19; refine (rclaims_calls bd _ _ l s d _ (HVK.out.keep SA.out) (HSK.out.keep SA.out)).mono ?_; rintro e wb ⟨rfl, hbb⟩; have SB := Lib.hid (belowT SA.out hbb); clear hbb))
      go_wp2
      go_ret
      exact ⟨by simp, belowT HB2.out SB.out⟩
  · rw [hla] at hlc
    have HLA := Lib.hid hla
    have HLC := Lib.hid hlc
    clear hla hlc
    go_enter Tryd.func5, Tryd.ntmps5
    go_wp2_with (first
      | (go_at_call 15; refine HLC.out.mono ?_; rintro e w1 ⟨rfl, hb1⟩; have HB1 := Lib.hid (belowT HB0.out hb1); clear hb1)
      | (go_at_call 11; refine (awake_calls _ (HTAB.out.keep HB1.out)).mono ?_; rintro e w2 ⟨rfl, hb2⟩))
    go_ret
    exact ⟨rfl, belowT HB1.out hb2⟩

set_option maxHeartbeats 1000000 in
theorem lawChecks_calls (sv v : Value) (s : List Int) (bd : Int) (l : List Nogood) (w : World) (hs : IntsAt w sv s) (hv : NogoodsAt w v l) (htab : TabOk w) :
    Calls Tryd.prog 6 #[sv, .agg #[.int .i64 bd, v]] w fun e w' => e = .returned (.bool true) ∧ Below w.heap.size w w' := by
  obtain ⟨A, n, c, rfl, hn, hm⟩ := hv.form
  obtain ⟨sA, sn, sc, rfl, hsn, hsm⟩ := hs.form
  have hb0 : Below w.heap.size w (w.alloc (.cells #[.int .i64 bd, .slice A n c] 25)) := belowA (Below.refl _ _) _
  have hlc := large_calls bd _ l _ (hv.keep hb0)
  have HV := Lib.hid hv
  have HN := Lib.hid hn
  have HS := Lib.hid hs
  have HSN := Lib.hid hsn
  have HTAB := Lib.hid htab
  have HB0 := Lib.hid hb0
  clear hv hn hs hsn htab hb0
  by_cases h100 : 100 < sn
  · clear hlc
    go_enter Tryd.func6, Tryd.ntmps6
    go_wp2_with (go_at_call 11; refine (awake_calls _ (HTAB.out.keep HB0.out)).mono ?_; rintro e w2 ⟨rfl, hb2⟩)
    go_ret
    exact ⟨rfl, belowT HB0.out hb2⟩
  · cases hla : largeF l
    · rw [hla] at hlc
      have hq0 : (w.alloc (.cells #[.int .i64 bd, .slice A n c] 25)).cell? ⟨w.heap.size, 0, none⟩ = some (.int .i64 bd) := by simp
      have hq1 : (w.alloc (.cells #[.int .i64 bd, .slice A n c] 25)).cell? ⟨w.heap.size, 1, none⟩ = some (.slice A n c) := by simp
      have HQ0 := Lib.hid hq0
      have HQ1 := Lib.hid hq1
      have HLA := Lib.hid hla
      have HLC := Lib.hid hlc
      clear hq0 hq1 hla hlc
      go_enter Tryd.func6, Tryd.ntmps6
      go_upto_region 3 with (first
        | (go_at_call 15; refine HLC.out.mono ?_; rintro e w1 ⟨rfl, hb1⟩; have HB1 := Lib.hid (belowT HB0.out hb1); have HC0 := Lib.hid (kept hb1 HQ0.out); have HC1 := Lib.hid (kept hb1 HQ1.out); clear hb1)
        | (go_at_call 11; refine (awake_calls _ (HTAB.out.keep HB1.out)).mono ?_; rintro e w2 ⟨rfl, hb2⟩; have HB2 := Lib.hid (belowT HB1.out hb2); have c0 := kept hb2 HC0.out; have c1 := kept hb2 HC1.out; clear hb2))
      have s0 : Below w2.heap.size w2 w2.drew := (Below.refl _ _).drew
      have hvk := HV.out.keep HB2.out
      have hsk := HS.out.keep HB2.out
      have S0 := Lib.hid s0
      have HVK := Lib.hid hvk
      have HSK := Lib.hid hsk
      clear s0 hvk hsk
      go_region_held3 (fun w' => w'.cell? ⟨w.heap.size, 0, none⟩ = some (.int .i64 bd) ∧ w'.cell? ⟨w.heap.size, 1, none⟩ = some (.slice A n c))
        (first | exact ⟨kept SD.out c0, kept SD.out c1⟩ | exact ⟨kept SC.out c0, kept SC.out c1⟩ | exact ⟨kept SB.out c0, kept SB.out c1⟩ | exact ⟨kept SA.out c0, kept SA.out c1⟩ | exact ⟨c0, c1⟩)
        (first
          | (go_at_call 13; refine (check_calls bd _ l _ (HVK.out.keep S0.out)).mono ?_; rintro e wa ⟨rfl, hba⟩; have SA := Lib.hid (belowT S0.out hba); clear hba)
          | (go_at_call 12; refine (num_calls _ _).mono ?_; rintro e wn ⟨rfl, rfl⟩)
          | (go_at_call 14; refine (rcheck_calls bd _ l _ (HVK.out.keep SA.out)).mono ?_; rintro e wb ⟨rfl, hbb⟩; have SB := Lib.hid (belowT SA.out hbb); clear hbb)
          | (go_at_call 20; refine (proper_calls bd _ _ l s _ (HVK.out.keep SB.out) (HSK.out.keep SB.out)).mono ?_; rintro e wc ⟨rfl, hbc⟩; have SC := Lib.hid (belowT SB.out hbc); clear hbc)
          | (go_at_call 21; refine (rproper_calls bd _ _ l s _ (HVK.out.keep SC.out) (HSK.out.keep SC.out)).mono ?_; rintro e wd ⟨rfl, hbd⟩; have SD := Lib.hid (belowT SC.out hbd); clear hbd))
      go_wp2
      go_ret
      exact ⟨by simp, belowT HB2.out SD.out⟩
    · rw [hla] at hlc
      have HLA := Lib.hid hla
      have HLC := Lib.hid hlc
      clear hla hlc
      go_enter Tryd.func6, Tryd.ntmps6
      go_wp2_with (first
        | (go_at_call 15; refine HLC.out.mono ?_; rintro e w1 ⟨rfl, hb1⟩; have HB1 := Lib.hid (belowT HB0.out hb1); clear hb1)
        | (go_at_call 11; refine (awake_calls _ (HTAB.out.keep HB1.out)).mono ?_; rintro e w2 ⟨rfl, hb2⟩))
      go_ret
      exact ⟨rfl, belowT HB1.out hb2⟩
end Go.Proofs.YticdfbhbbapbdaaDoor
