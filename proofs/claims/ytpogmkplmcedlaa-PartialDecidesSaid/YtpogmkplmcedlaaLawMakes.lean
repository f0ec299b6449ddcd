/- stratagemlaw06.awake; the walk of stratagemlaw06.PartialMakes. -/
import Derived.Test.YtpogmkplmcedlaaPlain06
import Derived.Test.YtpogmkplmcedlaaFacts
namespace Go.Proofs.Ytpogmkplmcedlaa
open Go.RowKit

theorem awake_make : makeF [(1, 0), (0, 2), (1, 0)] = ([(0, 2), (1, 0)], 0) := by rw [make_eq]; decide

theorem facts_block {w : World} {g : Nat} {cs : Array Value} {t : TypeId} (l : List Fact) (hb : w.heap[g]? = some (.cells cs t (0, 0))) (hc : cs = (factCells l).toArray) (hl : l.length * 16 ≤ 140737488355328) (n c : Nat) (hn : n = l.length) : FactsAt w (.slice (some ⟨g, 0, none⟩) n c) l := by
  subst hn hc
  refine ⟨_, c, rfl, hl, fun k x hx => ⟨g, 0, rfl, ?_, ?_⟩⟩
  · obtain ⟨h1, _⟩ := factCells_at l k x hx
    simpa [World.cell?, hb] using h1
  · obtain ⟨_, h1⟩ := factCells_at l k x hx
    simpa [World.cell?, hb] using h1

set_option maxHeartbeats 1000000 in
theorem awake_calls (w : World) : Calls Try.prog 9 #[] w fun e w' => e = .returned (.bool true) ∧ Below w.heap.size w w' := by
  have hB : Below w.heap.size w (w.alloc (.cells #[.int .i64 1, .int .i64 0, .int .i64 0, .int .i64 2, .int .i64 1, .int .i64 0] 56)) := belowA (Below.refl _ _) _
  have hf := make_calls _ [(1, 0), (0, 2), (1, 0)] _ (facts_block [(1, 0), (0, 2), (1, 0)] (heap_alloc_new w (.cells #[.int .i64 1, .int .i64 0, .int .i64 0, .int .i64 2, .int .i64 1, .int .i64 0] 56)) rfl (by simp) 3 3 rfl)
  rw [awake_make, errV_zero] at hf
  have HF := Lib.hid hf
  have HB := Lib.hid hB
  clear hf hB
  go_enter Try.func9, Try.ntmps9
  go_wp2_with (first
    | (go_at_call 10; refine HF.out.mono ?_; rintro e w1 ⟨v1, rfl, hown1, hb1⟩; have HF1 := Lib.hid (OwnF.facts hown1 (by simp)); have HB1 := Lib.hid (belowT HB.out hb1); clear hown1 hb1)
    | (go_at_call 13; refine (bfacts_calls _ _ [(0, 2), (1, 0)] [(0, 2), (1, 0)] _ (HF1.out.keep (belowA (Below.refl _ _) _)) (facts_block [(0, 2), (1, 0)] (heap_alloc_new w1 (.cells #[.int .i64 0, .int .i64 2, .int .i64 1, .int .i64 0] 56)) rfl (by simp) 2 2 rfl)).mono ?_; rw [show sameF [((0 : Int), (2 : Int)), (1, 0)] [(0, 2), (1, 0)] = true from by simp [sameF]]; rintro e w2 ⟨rfl, hb2⟩))
  go_ret
  exact ⟨rfl, belowT (belowA HB1.out _) hb2⟩

set_option maxHeartbeats 1000000 in
set_option maxRecDepth 100000 in
theorem lawMakes_calls (v : Value) (l : List Fact) (w : World) (hv : FactsAt w v l) :
    Calls Try.prog 3 #[v] w fun e w' => e = .returned (.bool true) ∧ Below w.heap.size w w' := by
  obtain ⟨A, n, c, rfl, hn, hm⟩ := hv.form
  obtain ⟨i0, hi0, hz0, hz1, hz2⟩ := info_parts factInfo
  have hroom : n * 16 ≤ 140737488355328 := by obtain ⟨_, _, hv', hl, _⟩ := id hv; injection hv' with _ h2 _; omega
  have HV := Lib.hid hv
  have HN := Lib.hid hn
  clear hv hn
  by_cases h300 : 300 < n
  · go_enter Try.func3, Try.ntmps3
    go_wp2_with (go_at_call 9; refine (awake_calls _).mono ?_; rintro e w1 ⟨rfl, hb1⟩)
    go_ret
    exact ⟨rfl, hb1⟩
  · go_enter Try.func3, Try.ntmps3
    go_upto_region 3 with (go_at_call 9; refine (awake_calls _).mono ?_; rintro e w1 ⟨rfl, hb1⟩)
    have hr := ((HV.out.keep hb1).keep (belowA (Below.refl _ _) (.cells #[] 56))).reads
    have hown : (w1.alloc (.cells #[] 56)).ownsRow w1.heap.size 56 2 (.slice (some ⟨w1.heap.size, 0, none⟩) 0 0) 0 [] := ⟨rfl, .inr ⟨w1.heap.size, 0, #[], rfl, Nat.le_refl _, heap_alloc_new _ _, Nat.le_refl _, Nat.zero_le _, rfl, rfl⟩⟩
    have HR := Lib.hid hr
    have HOWN := Lib.hid hown
    clear hr hown
    go_upto_region 4 with (at_builtin; refine wpList_append_any _ rfl (.tmp 16) (.tmp 17) _ rfl w1.heap.size 56 i0 _ 2 16 Try.underlying22 hi0 hz0 hz1 hz2 rfl (by omega) (.slice (some ⟨w1.heap.size, 0, none⟩) 0 0) 0 [] rfl HOWN.out _ _ n c (factCells l) rfl HR.out (factCells_one l) (by simp only [maxLen]; omega) (by omega) (by simp) ?_; intro v2 w2 hown2 hg2 hat2)
    have hb2 : Below w.heap.size w w2 := (belowA hb1 _).grown hg2 (by have := hb1.size; simp; omega) (by intro k hk; simp [Value.ownBlock] at hk; have := hb1.size; omega)
    have ho2 : OwnF w2 w1.heap.size v2 l := by
      rw [Nat.zero_add, List.nil_append, HN.out] at hown2
      exact hown2
    have hf2 : FactsAt w2 v2 l := ho2.facts (by have := HN.out; omega)
    clear hown2 hg2 hat2 hb1 ho2
    have HB2 := Lib.hid hb2
    have HF2 := Lib.hid hf2
    clear hb2 hf2
    obtain ⟨A2, n2, c2, rfl, hn2, hm2⟩ := HF2.out.form
    have hmk := make_calls _ l _ HF2.out
    have hrm := fun (W : World) (hb : Below w.heap.size w W) => rmake_calls _ l W (HV.out.keep hb)
    have hgl := makeF_len l
    rw [make_eq] at hmk hgl
    obtain ⟨⟨ml, mc⟩, hmm⟩ : ∃ p, rmakeF l = p := ⟨_, rfl⟩
    rw [hmm] at hmk hrm hgl
    simp only at hmk hrm hgl
    have hml : ml.length * 16 ≤ 140737488355328 := by have := HN.out; omega
    have HN2 := Lib.hid hn2
    have HMK := Lib.hid hmk
    have HRM := Lib.hid hrm
    have HMM := Lib.hid hmm
    have HML := Lib.hid hml
    clear hn2 hmk hrm hmm hml
    clear hgl
    have htrue : sameF ml ml = true := by simp [sameF]
    have htrue2 : sameF l l = true := by simp [sameF]
    have HT1 := Lib.hid htrue
    have HT2 := Lib.hid htrue2
    clear htrue htrue2
    go_wp2_with (first
      | (go_at_call 10; refine HMK.out.mono ?_; rintro e w3 ⟨v3, rfl, hown3, hb3⟩; have HB3 := Lib.hid (belowT HB2.out hb3); have HF3 := Lib.hid (OwnF.facts hown3 HML.out); have HF23 := Lib.hid (HF2.out.keep hb3); clear hown3 hb3)
      | (go_at_call 11; refine (HRM.out _ HB3.out).mono ?_; rintro e w4 ⟨v4, rfl, hown4, hb4⟩; have HB4 := Lib.hid (belowT HB3.out hb4); have HF4 := Lib.hid (OwnF.facts hown4 HML.out); have HF34 := Lib.hid (HF3.out.keep hb4); have HF24 := Lib.hid (HF23.out.keep hb4); clear hown4 hb4)
      | (go_at_call 12; refine (num_calls _ _).mono ?_; rintro e wn ⟨rfl, rfl⟩)
      | (go_at_call_of 13 v3; refine (bfacts_calls _ _ ml ml _ HF34.out HF4.out).mono ?_; rw [HT1.out]; rintro e w5 ⟨rfl, hb5⟩; have HB5 := Lib.hid (belowT HB4.out hb5); have HF25 := Lib.hid (HF24.out.keep hb5); clear hb5)
      | (go_at_call 13; refine (bfacts_calls _ _ l l _ HF25.out (HV.out.keep HB5.out)).mono ?_; rw [HT2.out]; rintro e w6 ⟨rfl, hb6⟩; have HB6 := Lib.hid (belowT HB5.out hb6); clear hb6))
    go_ret
    exact ⟨by simp, HB6.out⟩
end Go.Proofs.Ytpogmkplmcedlaa
