/- The walk of stratagemlaw06.PartialMinimal. -/
import Derived.Test.YtpogmkplmcedlaaRMinimal
import Derived.Test.YtpogmkplmcedlaaLawMakes
namespace Go.Proofs.Ytpogmkplmcedlaa
open Go.RowKit

set_option maxHeartbeats 1000000 in
set_option maxRecDepth 100000 in
theorem lawMinimal_calls (v : Value) (l : List (List Fact)) (w : World) (hv : ListsAt w v l) :
    Calls Try.prog 5 #[v] w fun e w' => e = .returned (.bool true) ∧ Below w.heap.size w w' := by
  obtain ⟨A, n, c, rfl, hn, hm⟩ := hv.form
  have hmany := many_calls _ l w hv
  cases hmm : manyF l
  · rw [hmm] at hmany
    have h1 := fun (W : World) (hb : Below w.heap.size w W) => minimal_calls _ l W (hv.keep hb)
    have h2 := fun (W : World) (hb : Below w.heap.size w W) => rminimal_calls _ l W (hv.keep hb)
    have hlen : (minF l).length * 24 ≤ 140737488355328 := by have := minL_len l l 0; rw [← minF] at this; omega
    rw [← min_eq] at h2
    have hself := listsF_self (minF l)
    generalize minF l = m at h1 h2 hlen hself
    have HV := Lib.hid hv
    have HN := Lib.hid hn
    have H1 := Lib.hid h1
    have H2 := Lib.hid h2
    have HMM := Lib.hid hmm
    have HLEN := Lib.hid hlen
    have HSELF := Lib.hid hself
    have HMANY := Lib.hid hmany
    clear hv hn h1 h2 hmm hlen hself hmany
    go_enter Try.func5, Try.ntmps5
    go_wp2_with (first
      | (go_at_call 18; refine HMANY.out.mono ?_; rintro e w0 ⟨rfl, hb0⟩; have HB0 := Lib.hid hb0; clear hb0)
      | (go_at_call 9; refine (awake_calls _).mono ?_; rintro e w1 ⟨rfl, hb1⟩; have HB1 := Lib.hid (belowT HB0.out hb1); clear hb1)
      | (go_at_call 20; refine (H1.out _ HB1.out).mono ?_; rintro e w3 ⟨v3, rfl, hown3, hb3⟩; have HB3 := Lib.hid (belowT HB1.out hb3); have HF3 := Lib.hid (OwnL.lists hown3 HLEN.out); clear hown3 hb3)
      | (go_at_call 21; refine (H2.out _ HB3.out).mono ?_; rintro e w4 ⟨v4, rfl, hown4, hb4⟩; have HB4 := Lib.hid (belowT HB3.out hb4); have HF4 := Lib.hid (OwnL.lists hown4 HLEN.out); have HF34 := Lib.hid (HF3.out.keep hb4); clear hown4 hb4)
      | (go_at_call 19; refine (lists_calls _ _ m m _ HF34.out HF4.out).mono ?_; rw [HSELF.out]; rintro e w5 ⟨rfl, hb5⟩; have HB5 := Lib.hid (belowT HB4.out hb5); clear hb5))
    go_ret
    exact ⟨rfl, HB5.out⟩
  · rw [hmm] at hmany
    have HV := Lib.hid hv
    have HN := Lib.hid hn
    have HMM := Lib.hid hmm
    have HMANY := Lib.hid hmany
    clear hv hn hmm hmany
    go_enter Try.func5, Try.ntmps5
    go_wp2_with (first
      | (go_at_call 18; refine HMANY.out.mono ?_; rintro e w0 ⟨rfl, hb0⟩; have HB0 := Lib.hid hb0; clear hb0)
      | (go_at_call 9; refine (awake_calls _).mono ?_; rintro e w1 ⟨rfl, hb1⟩; have HB1 := Lib.hid (belowT HB0.out hb1); clear hb1))
    go_ret
    exact ⟨rfl, HB1.out⟩
end Go.Proofs.Ytpogmkplmcedlaa
