/- partial.Make: the partial state with the given facts. -/
import Derived.Test.YtpogmkplmcedlaaSortF
import Derived.Test.YtpogmkplmcedlaaCloneF
import Derived.Test.YtpogmkplmcedlaaCompactF
import Derived.Test.YtpogmkplmcedlaaIs
import Derived.Test.YtpogmkplmcedlaaErr
namespace Go.Proofs.Ytpogmkplmcedlaa
open Go.RowKit

theorem dd_len (l : List Fact) : ∀ p, (dd p l).length ≤ l.length := by
  induction l with
  | nil => intro p; simp [dd]
  | cons x r ih =>
    intro p
    have := ih (some x)
    rw [dd]
    split
    · simp; omega
    · simp; omega
def negF (x : Fact) : Bool := decide (x.1 < 0) || decide (x.2 < 0)
def tidyF (l : List Fact) : List Fact := compactF (sortF l)
theorem tidyF_len (l : List Fact) : (tidyF l).length ≤ l.length := by
  have h1 := dd_len (sortF l) none
  rw [sortF_length] at h1
  exact h1
/-- the facts, and the error's number -/
def makeF (l : List Fact) : List Fact × Int := if l.any negF then ([], 1) else if isF (tidyF l) then (tidyF l, 0) else ([], 2)
theorem makeF_len (l : List Fact) : (makeF l).1.length ≤ l.length := by
  unfold makeF
  split
  · simp
  · split
    · exact tidyF_len l
    · simp

set_option maxHeartbeats 1000000 in
theorem make_calls (v : Value) (l : List Fact) (w : World) (hv : FactsAt w v l) :
    Calls Try.prog 10 #[v] w fun e w' => ∃ v', e = .returned (.tuple #[v', errV (makeF l).2]) ∧ OwnF w' w.heap.size v' (makeF l).1 ∧ Below w.heap.size w w' := by
  obtain ⟨A, n, c, rfl, hn, hm⟩ := hv.form
  have hroom : n * 16 ≤ 140737488355328 := by obtain ⟨_, _, hv', hl, _⟩ := id hv; injection hv' with _ h2 _; omega
  have HV := Lib.hid hv
  have HN := Lib.hid hn
  clear hv hn
  go_enter Try.func10, Try.ntmps10
  go_wp2
  go_loopg [9] n (fun g i wr => ∃ k : Nat, k ≤ n ∧ g = n - k ∧ i = .int .i64 k ∧ Below w.heap.size w wr ∧ l.any negF = (l.drop k).any negF)
  case atStart => exact ⟨0, Nat.zero_le _, by omega, rfl, Below.refl _ _, rfl⟩
  case round =>
    obtain ⟨k, hk, hg, rfl, hB, hF⟩ := hrel
    have HG := Lib.hid hg
    have HF := Lib.hid hF
    clear hg hF
    by_cases hlt : k < n
    · obtain ⟨b, off, x, y, rfl, c0, c1, hx, hd⟩ := (HV.out.keep hB).at hlt
      have hbr : b < wr.heap.size := lt_of_cell c0
      have HX := Lib.hid hx
      have HD := Lib.hid hd
      clear hx hd
      go_upto_region 4 with fail
      go_cut [20] (fun t wx => t = .bool (negF (x, y)) ∧ Below w.heap.size w wx)
      case first =>
        go_wp2_with fail
        all_goals (go_meet; exact ⟨by rw [Value.bool.injEq, Bool.eq_iff_iff]; simp [negF] <;> omega, belowA hB _⟩)
      case rest =>
        obtain ⟨rfl, hB'⟩ := hcut
        cases hbad : negF (x, y)
        · go_wp2
          go_roundg (n - (k + 1))
          case measure => have := HG.out; omega
          case rel => exact ⟨k + 1, by omega, rfl, by go_num, hB', by rw [HF.out, HD.out]; simp [hbad]⟩
        · have hfin : makeF l = ([], 1) := by rw [makeF, HF.out, HD.out]; simp [hbad]
          have HFIN := Lib.hid hfin
          clear hfin
          go_wp2
          go_ret2
          exact ⟨_, by rw [HFIN.out]; rfl, by rw [HFIN.out]; exact ⟨rfl, .inl ⟨rfl, rfl⟩⟩, hB'⟩
    · have hany : l.any negF = false := by rw [HF.out, List.drop_eq_nil_of_le (by have := HN.out; omega)]; rfl
      have hfin : makeF l = if isF (tidyF l) then (tidyF l, 0) else ([], 2) := by rw [makeF, hany]; rfl
      have htl := tidyF_len l
      have hvk := HV.out.keep hB
      have HANY := Lib.hid hany
      have HFIN := Lib.hid hfin
      have HVK := Lib.hid hvk
      clear hany hfin hvk
      go_wp2_with (go_at_call 30; refine (cloneF_calls _ l _ HVK.out).mono ?_; rintro e w1 ⟨v1, rfl, hown1, hb1⟩)
      obtain ⟨A1, c1, rfl⟩ := hown1.form
      refine (sort_calls _ _ l _ hown1 (by have := HN.out; omega)).mono ?_
      rintro e w2 ⟨rfl, hown2, hg2⟩
      have hb2 : Below w.heap.size w w2 := (belowT hB hb1).grown hg2 (by have := hB.size; have := hb1.size; omega) (fun k hk => by have := (hown1.lt k hk).1; have := hB.size; omega)
      have hlsz : (sortF l).length * 16 ≤ 140737488355328 := by rw [sortF_length]; have := HN.out; omega
      have hslen := sortF_length l
      have HOWN2 := Lib.hid hown2
      have HB2 := Lib.hid hb2
      have HLSZ := Lib.hid hlsz
      have HSLEN := Lib.hid hslen
      clear hown2 hb2 hlsz hslen
      clear hown1 hg2 hb1
      go_wp2_with fail
      refine (compact_calls _ _ (sortF l) _ (by have := HOWN2.out; exact this) HLSZ.out).mono ?_
      rintro e w3 ⟨v3, rfl, hown3, hg3⟩
      have hb3 : Below w.heap.size w w3 := HB2.out.grown hg3 HB2.out.size (fun k hk => by have := (HOWN2.out.lt k hk).1; have := hB.size; omega)
      obtain ⟨A3, c3, rfl⟩ := hown3.form
      have hf3 : FactsAt w3 (.slice A3 (tidyF l).length c3) (tidyF l) := OwnF.facts hown3 (by show (tidyF l).length * 16 ≤ _; have := HN.out; omega)
      have hown3' : OwnF w3 w.heap.size (.slice A3 (tidyF l).length c3) (tidyF l) := own_mono hown3 hB.size
      have hcl : (compactF (sortF l)).length = (tidyF l).length := rfl
      rw [hcl]
      generalize (tidyF l).length = m3 at hf3 hown3' htl ⊢
      have HOWN3 := Lib.hid hown3'
      have HB3 := Lib.hid hb3
      have HF3 := Lib.hid hf3
      clear hown3' hb3 hf3
      clear hown3 hg3 hcl
      cases his : isF (tidyF l)
      · have hfin2 : makeF l = ([], 2) := by rw [HFIN.out, his]; rfl
        have HIS := Lib.hid his
        have HFIN2 := Lib.hid hfin2
        clear his hfin2
        go_wp2_with (go_at_call 36; refine (valid_calls _ (tidyF l) _ HF3.out).mono ?_; rw [HIS.out]; rintro e w4 ⟨rfl, hb4⟩)
        go_ret2
        exact ⟨_, by rw [HFIN2.out]; rfl, by rw [HFIN2.out]; exact ⟨rfl, .inl ⟨rfl, rfl⟩⟩, belowT HB3.out hb4⟩
      · have hfin2 : makeF l = (tidyF l, 0) := by rw [HFIN.out, his]; rfl
        have HIS := Lib.hid his
        have HFIN2 := Lib.hid hfin2
        clear his hfin2
        go_wp2_with (go_at_call 36; refine (valid_calls _ (tidyF l) _ HF3.out).mono ?_; rw [HIS.out]; rintro e w4 ⟨rfl, hb4⟩)
        go_ret2
        exact ⟨_, by rw [HFIN2.out]; rfl, by rw [HFIN2.out]; exact ownF_keep HOWN3.out hb4, belowT HB3.out hb4⟩
end Go.Proofs.Ytpogmkplmcedlaa
