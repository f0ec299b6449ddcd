/- The walk of stratagemlaw06.PartialJoins. -/
import Derived.Test.YtpogmkplmcedlaaJoin
import Derived.Test.YtpogmkplmcedlaaLawMakes
namespace Go.Proofs.Ytpogmkplmcedlaa
open Go.RowKit

set_option maxHeartbeats 1000000 in
set_option maxRecDepth 100000 in
theorem lawJoins_calls (u v : Value) (a b : List Fact) (w : World) (hu : FactsAt w u a) (hv : FactsAt w v b) :
    Calls Try.prog 4 #[u, v] w fun e w' => e = .returned (.bool true) ∧ Below w.heap.size w w' := by
  obtain ⟨A, n, c, rfl, hn, hm⟩ := hv.form
  obtain ⟨A', n', c', rfl, hn', hm'⟩ := hu.form
  by_cases h300 : (300 : Int) < (n' : Int) + n
  · have HU := Lib.hid hu
    have HV := Lib.hid hv
    have HN := Lib.hid hn
    have HN' := Lib.hid hn'
    clear hu hv hn hn'
    go_enter Try.func4, Try.ntmps4
    go_wp2_with (go_at_call 9; refine (awake_calls _).mono ?_; rintro e w1 ⟨rfl, hb1⟩)
    go_ret
    exact ⟨rfl, hb1⟩
  · have hsum : (a.length + b.length) * 16 ≤ 140737488355328 := by omega
    have h1 := fun (W : World) (hb : Below w.heap.size w W) => join_calls _ _ a b W (hu.keep hb) (hv.keep hb) hsum
    have h2 := fun (W : World) (hb : Below w.heap.size w W) => rjoin_calls _ _ a b W (hu.keep hb) (hv.keep hb) hsum
    have h3 := fun (W : World) (hb : Below w.heap.size w W) => Contains_calls _ _ a b W (hu.keep hb) (hv.keep hb)
    have h4 := fun (W : World) (hb : Below w.heap.size w W) => rContains_calls _ _ a b W (hu.keep hb) (hv.keep hb)
    have hjl := joinF_len a b
    obtain ⟨⟨jl, jc⟩, hjj⟩ : ∃ p, joinF a b = p := ⟨_, rfl⟩
    rw [hjj] at h1 h2 hjl
    simp only at h1 h2 hjl
    have hml : jl.length * 16 ≤ 140737488355328 := by omega
    have htrue : sameF jl jl = true := by simp [sameF]
    generalize ContainsF a b = cb at h3 h4
    have HU := Lib.hid hu
    have HV := Lib.hid hv
    have HN := Lib.hid hn
    have HN' := Lib.hid hn'
    have H1 := Lib.hid h1
    have H2 := Lib.hid h2
    have H3 := Lib.hid h3
    have H4 := Lib.hid h4
    have HJJ := Lib.hid hjj
    have HML := Lib.hid hml
    have HT1 := Lib.hid htrue
    have HSUM := Lib.hid hsum
    clear hu hv hn hn' h1 h2 h3 h4 hjj hml htrue hsum
    clear hjl
    go_enter Try.func4, Try.ntmps4
    go_wp2_with (first
      | (go_at_call 9; refine (awake_calls _).mono ?_; rintro e w1 ⟨rfl, hb1⟩; have HB1 := Lib.hid hb1; clear hb1)
      | (go_at_call 14; refine (H1.out _ HB1.out).mono ?_; rintro e w3 ⟨v3, rfl, hown3, hb3⟩; have HB3 := Lib.hid (belowT HB1.out hb3); have HF3 := Lib.hid (OwnF.facts hown3 HML.out); clear hown3 hb3)
      | (go_at_call 15; refine (H2.out _ HB3.out).mono ?_; rintro e w4 ⟨v4, rfl, hown4, hb4⟩; have HB4 := Lib.hid (belowT HB3.out hb4); have HF4 := Lib.hid (OwnF.facts hown4 HML.out); have HF34 := Lib.hid (HF3.out.keep hb4); clear hown4 hb4)
      | (go_at_call 13; refine (bfacts_calls _ _ jl jl _ HF34.out HF4.out).mono ?_; rw [HT1.out]; rintro e w5 ⟨rfl, hb5⟩; have HB5 := Lib.hid (belowT HB4.out hb5); clear hb5)
      | (go_at_call 16; refine (H3.out _ HB5.out).mono ?_; rintro e w6 ⟨rfl, hb6⟩; have HB6 := Lib.hid (belowT HB5.out hb6); clear hb6)
      | (go_at_call 17; refine (H4.out _ HB6.out).mono ?_; rintro e w7 ⟨rfl, hb7⟩; have HB7 := Lib.hid (belowT HB6.out hb7); clear hb7))
    go_ret
    exact ⟨by simp, HB7.out⟩
end Go.Proofs.Ytpogmkplmcedlaa
