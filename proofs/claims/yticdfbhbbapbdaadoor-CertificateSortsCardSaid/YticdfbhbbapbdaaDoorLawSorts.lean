/- The walk of stratagemlaw30.CertificateSorts. -/
import Derived.Test.YticdfbhbbapbdaaDoorRSort
import Derived.Test.YticdfbhbbapbdaaDoorReduce
import Derived.Test.YticdfbhbbapbdaaDoorPlainR
import Derived.Test.YticdfbhbbapbdaaDoorAwake30
namespace Go.Proofs.YticdfbhbbapbdaaDoor
open Go.RowKit

set_option maxHeartbeats 2000000 in
theorem lawSorts_calls (bd : Int) (v : Value) (l : List Nogood) (w : World) (hv : NogoodsAt w v l) (htab : TabOk w) :
    Calls Tryd.prog 7 #[.agg #[.int .i64 bd, v]] w fun e w' => e = .returned (.bool true) ∧ Below w.heap.size w w' := by
  obtain ⟨A, n, c, rfl, hn, hm⟩ := hv.form
  have hlen : (sortC bd l).length * 32 ≤ 140737488355328 := by
    obtain ⟨_, _, hv', hl, _⟩ := id hv
    rw [sortC_length]
    exact hl
  have hre := reduceC_eq bd l
  have hb0 : Below w.heap.size w (w.alloc (.cells #[.int .i64 bd, .slice A n c] 25)) := belowA (Below.refl _ _) _
  have hlc := large_calls bd _ l _ (hv.keep hb0)
  have HV := Lib.hid hv
  have HN := Lib.hid hn
  have HTAB := Lib.hid htab
  have HB0 := Lib.hid hb0
  have HLEN := Lib.hid hlen
  have HRE := Lib.hid hre
  clear hv hn htab hb0 hlen hre
  cases hla : largeF l
  · rw [hla] at hlc
    have hq0 : (w.alloc (.cells #[.int .i64 bd, .slice A n c] 25)).cell? ⟨w.heap.size, 0, none⟩ = some (.int .i64 bd) := by simp
    have hq1 : (w.alloc (.cells #[.int .i64 bd, .slice A n c] 25)).cell? ⟨w.heap.size, 1, none⟩ = some (.slice A n c) := by simp
    have HQ0 := Lib.hid hq0
    have HQ1 := Lib.hid hq1
    have HLA := Lib.hid hla
    have HLC := Lib.hid hlc
    clear hq0 hq1 hla hlc
    go_enter Tryd.func7, Tryd.ntmps7
    go_upto_region 3 with (first
      | (go_at_call 15; refine HLC.out.mono ?_; rintro e w1 ⟨rfl, hb1⟩; have HB1 := Lib.hid (belowT HB0.out hb1); have HC0 := Lib.hid (kept hb1 HQ0.out); have HC1 := Lib.hid (kept hb1 HQ1.out); clear hb1)
      | (go_at_call 11; refine (awake_calls _ (HTAB.out.keep HB1.out)).mono ?_; rintro e w2 ⟨rfl, hb2⟩; have HB2 := Lib.hid (belowT HB1.out hb2); have c0 := kept hb2 HC0.out; have c1 := kept hb2 HC1.out; clear hb2))
    have s0 : Below w2.heap.size w2 w2.drew := (Below.refl _ _).drew
    have hvk := HV.out.keep HB2.out
    have S0 := Lib.hid s0
    have HVK := Lib.hid hvk
    clear s0 hvk
    go_region_held3 (fun w' => w'.cell? ⟨w.heap.size, 0, none⟩ = some (.int .i64 bd) ∧ w'.cell? ⟨w.heap.size, 1, none⟩ = some (.slice A n c))
      (first | exact ⟨kept SF.out c0, kept SF.out c1⟩ | exact ⟨kept SE.out c0, kept SE.out c1⟩ | exact ⟨kept SD.out c0, kept SD.out c1⟩ | exact ⟨kept SC.out c0, kept SC.out c1⟩ | exact ⟨kept SB.out c0, kept SB.out c1⟩ | exact ⟨kept SA.out c0, kept SA.out c1⟩ | exact ⟨c0, c1⟩)
      (first
        | (go_at_call 23; refine (sort_calls bd _ l _ (HVK.out.keep S0.out)).mono ?_; rintro e wa ⟨va, rfl, hoa, hba⟩; have SA := Lib.hid (belowT S0.out hba); have NA := Lib.hid (hoa.nogoods HLEN.out); clear hoa hba)
        | (go_at_call 24; refine (rsort_calls bd _ l _ (HVK.out.keep SA.out)).mono ?_; rintro e wb ⟨vb, rfl, hnb, hbb⟩; have SB := Lib.hid (belowT SA.out hbb); have NB := Lib.hid hnb; have NA := Lib.hid (NA.out.keep hbb); clear hnb hbb)
        | (go_at_call 22; refine (same_calls bd bd vd ve _ _ _ ND.out NE.out).mono ?_; rintro e wf ⟨rfl, hbf⟩; have SF := Lib.hid (belowT SE.out hbf); clear hbf; rw [HRE.out, sameC_self])
        | (go_at_call 22; refine (same_calls bd bd va vb _ _ _ NA.out NB.out).mono ?_; rintro e wc ⟨rfl, hbc⟩; have SC := Lib.hid (belowT SB.out hbc); clear hbc; rw [sameC_self])
        | (go_at_call 25; refine (reduce_calls bd _ l _ (HVK.out.keep SC.out)).mono ?_; rintro e wd ⟨vd, rfl, hnd, hbd⟩; have SD := Lib.hid (belowT SC.out hbd); have ND := Lib.hid hnd; clear hnd hbd)
        | (go_at_call 26; refine (rreduce_calls bd _ l _ (HVK.out.keep SD.out)).mono ?_; rintro e we ⟨ve, rfl, hne, hbe⟩; have SE := Lib.hid (belowT SD.out hbe); have NE := Lib.hid hne; have ND := Lib.hid (ND.out.keep hbe); clear hne hbe))
    go_wp2
    go_ret
    exact ⟨by simp, belowT HB2.out SF.out⟩
  · rw [hla] at hlc
    have HLA := Lib.hid hla
    have HLC := Lib.hid hlc
    clear hla hlc
    go_enter Tryd.func7, Tryd.ntmps7
    go_wp2_with (first
      | (go_at_call 15; refine HLC.out.mono ?_; rintro e w1 ⟨rfl, hb1⟩; have HB1 := Lib.hid (belowT HB0.out hb1); clear hb1)
      | (go_at_call 11; refine (awake_calls _ (HTAB.out.keep HB1.out)).mono ?_; rintro e w2 ⟨rfl, hb2⟩))
    go_ret
    exact ⟨rfl, belowT HB1.out hb2⟩
end Go.Proofs.YticdfbhbbapbdaaDoor
