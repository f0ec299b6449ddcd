/- stratagemref06.Clash, partial.conflict: do two partial states contradict each other? -/
import Derived.Test.YtpogmkplmcedlaaContains
namespace Go.Proofs.Ytpogmkplmcedlaa
open Go.RowKit

set_option maxHeartbeats 1000000 in
theorem clash_calls (u v : Value) (a b : List Fact) (w : World) (hu : FactsAt w u a) (hv : FactsAt w v b) :
    Calls Try.prog 40 #[u, v] w fun e w' => e = .returned (.bool (clashF a b)) ∧ Below w.heap.size w w' := by
  obtain ⟨A, n, c, rfl, hn, hm⟩ := hu.form
  obtain ⟨A', n', c', rfl, hn', hm'⟩ := hv.form
  have HU := Lib.hid hu
  have HV := Lib.hid hv
  have HN := Lib.hid hn
  have HN' := Lib.hid hn'
  clear hu hv hn hn'
  go_enter Try.func40, Try.ntmps40
  go_wp2
  go_loopg [10] n (fun g i wr => ∃ k : Nat, k ≤ n ∧ g = n - k ∧ i = .int .i64 k ∧ Below w.heap.size w wr ∧ clashF a b = clashF (a.drop k) b)
  case atStart => exact ⟨0, Nat.zero_le _, by omega, rfl, Below.refl _ _, rfl⟩
  case round =>
    obtain ⟨k, hk, hg, rfl, hB, hF⟩ := hrel
    have HG := Lib.hid hg
    have HF := Lib.hid hF
    clear hg hF
    by_cases hlt : k < n
    · obtain ⟨bb, off, x, y, rfl, c0, c1, hx, hd⟩ := (HU.out.keep hB).at hlt
      have hbr : bb < wr.heap.size := lt_of_cell c0
      have hvc := value_calls _ b x _ ((HV.out.keep hB).keep (belowA (Below.refl _ _) (.cells #[.int .i64 x, .int .i64 y] 56)))
      have hstep : clashF a b = (decide (0 ≤ valueF b x) && (valueF b x != y) || clashF (a.drop (k + 1)) b) := by rw [HF.out, hd]; rfl
      generalize valueF b x = z at hvc hstep
      have HX := Lib.hid hx
      have HD := Lib.hid hd
      have HVC := Lib.hid hvc
      clear hx hd hvc
      cases hcl : (decide (0 ≤ z) && (z != y))
      · have hnext : clashF a b = clashF (a.drop (k + 1)) b := by rw [hstep, hcl]; rfl
        have HSTEP := Lib.hid hstep
        have HNEXT := Lib.hid hnext
        clear hstep hnext
        by_cases hz : 0 ≤ z
        · have hzy : (z != y) = false := by
            have e : decide (0 ≤ z) = true := by simpa using hz
            rw [e] at hcl
            simpa using hcl
          clear hcl
          go_wp2_with (go_at_call 37; refine HVC.out.mono ?_; rintro e w1 ⟨rfl, hb1⟩; have q0 : w1.cell? ⟨wr.heap.size, 0, none⟩ = some (.int .i64 x) := kept hb1 (by simp); have q1 : w1.cell? ⟨wr.heap.size, 1, none⟩ = some (.int .i64 y) := kept hb1 (by simp); have HB1 := Lib.hid (belowT (belowA hB _) hb1); clear hb1)
          go_roundg (n - (k + 1))
          case measure => have := HG.out; omega
          case rel => exact ⟨k + 1, by omega, rfl, by go_num, HB1.out, HNEXT.out⟩
        · have hz' : decide (0 ≤ z) = false := by simpa using hz
          clear hcl
          go_wp2_with (go_at_call 37; refine HVC.out.mono ?_; rintro e w1 ⟨rfl, hb1⟩; have q0 : w1.cell? ⟨wr.heap.size, 0, none⟩ = some (.int .i64 x) := kept hb1 (by simp); have q1 : w1.cell? ⟨wr.heap.size, 1, none⟩ = some (.int .i64 y) := kept hb1 (by simp); have HB1 := Lib.hid (belowT (belowA hB _) hb1); clear hb1)
          go_roundg (n - (k + 1))
          case measure => have := HG.out; omega
          case rel => exact ⟨k + 1, by omega, rfl, by go_num, HB1.out, HNEXT.out⟩
      · have hfin : clashF a b = true := by rw [hstep, hcl]; rfl
        have hz : 0 ≤ z := by simp at hcl; exact hcl.1
        have hzy : (z != y) = true := by simp at hcl; simpa using hcl.2
        have HSTEP := Lib.hid hstep
        have HFIN := Lib.hid hfin
        clear hstep hfin
        clear hcl
        go_wp2_with (go_at_call 37; refine HVC.out.mono ?_; rintro e w1 ⟨rfl, hb1⟩; have q0 : w1.cell? ⟨wr.heap.size, 0, none⟩ = some (.int .i64 x) := kept hb1 (by simp); have q1 : w1.cell? ⟨wr.heap.size, 1, none⟩ = some (.int .i64 y) := kept hb1 (by simp); have HB1 := Lib.hid (belowT (belowA hB _) hb1); clear hb1)
        go_ret
        exact ⟨by rw [HFIN.out]; rfl, HB1.out⟩
    · have hfin : clashF a b = false := by rw [HF.out, List.drop_eq_nil_of_le (by have := HN.out; omega)]; rfl
      have HFIN := Lib.hid hfin
      clear hfin
      go_wp2
      go_ret
      exact ⟨by rw [HFIN.out]; rfl, hB⟩
set_option maxHeartbeats 1000000 in
theorem conflict_calls (u v : Value) (a b : List Fact) (w : World) (hu : FactsAt w u a) (hv : FactsAt w v b) :
    Calls Try.prog 58 #[v, u] w fun e w' => e = .returned (.bool (clashF a b)) ∧ Below w.heap.size w w' := by
  obtain ⟨A, n, c, rfl, hn, hm⟩ := hu.form
  obtain ⟨A', n', c', rfl, hn', hm'⟩ := hv.form
  have HU := Lib.hid hu
  have HV := Lib.hid hv
  have HN := Lib.hid hn
  have HN' := Lib.hid hn'
  clear hu hv hn hn'
  go_enter Try.func58, Try.ntmps58
  go_wp2
  go_loopg [10] n (fun g i wr => ∃ k : Nat, k ≤ n ∧ g = n - k ∧ i = .int .i64 k ∧ Below w.heap.size w wr ∧ clashF a b = clashF (a.drop k) b)
  case atStart => exact ⟨0, Nat.zero_le _, by omega, rfl, Below.refl _ _, rfl⟩
  case round =>
    obtain ⟨k, hk, hg, rfl, hB, hF⟩ := hrel
    have HG := Lib.hid hg
    have HF := Lib.hid hF
    clear hg hF
    by_cases hlt : k < n
    · obtain ⟨bb, off, x, y, rfl, c0, c1, hx, hd⟩ := (HU.out.keep hB).at hlt
      have hbr : bb < wr.heap.size := lt_of_cell c0
      have hvc := find_calls _ b x _ ((HV.out.keep hB).keep (belowA (Below.refl _ _) (.cells #[.int .i64 x, .int .i64 y] 56)))
      have hstep : clashF a b = (decide (0 ≤ valueF b x) && (valueF b x != y) || clashF (a.drop (k + 1)) b) := by rw [HF.out, hd]; rfl
      generalize valueF b x = z at hvc hstep
      have HX := Lib.hid hx
      have HD := Lib.hid hd
      have HVC := Lib.hid hvc
      clear hx hd hvc
      cases hcl : (decide (0 ≤ z) && (z != y))
      · have hnext : clashF a b = clashF (a.drop (k + 1)) b := by rw [hstep, hcl]; rfl
        have HSTEP := Lib.hid hstep
        have HNEXT := Lib.hid hnext
        clear hstep hnext
        by_cases hz : 0 ≤ z
        · have hzy : (z != y) = false := by
            have e : decide (0 ≤ z) = true := by simpa using hz
            rw [e] at hcl
            simpa using hcl
          clear hcl
          go_wp2_with (go_at_call 43; refine HVC.out.mono ?_; rintro e w1 ⟨rfl, hb1⟩; have q0 : w1.cell? ⟨wr.heap.size, 0, none⟩ = some (.int .i64 x) := kept hb1 (by simp); have q1 : w1.cell? ⟨wr.heap.size, 1, none⟩ = some (.int .i64 y) := kept hb1 (by simp); have HB1 := Lib.hid (belowT (belowA hB _) hb1); clear hb1)
          go_roundg (n - (k + 1))
          case measure => have := HG.out; omega
          case rel => exact ⟨k + 1, by omega, rfl, by go_num, HB1.out, HNEXT.out⟩
        · have hz' : decide (0 ≤ z) = false := by simpa using hz
          clear hcl
          go_wp2_with (go_at_call 43; refine HVC.out.mono ?_; rintro e w1 ⟨rfl, hb1⟩; have q0 : w1.cell? ⟨wr.heap.size, 0, none⟩ = some (.int .i64 x) := kept hb1 (by simp); have q1 : w1.cell? ⟨wr.heap.size, 1, none⟩ = some (.int .i64 y) := kept hb1 (by simp); have HB1 := Lib.hid (belowT (belowA hB _) hb1); clear hb1)
          go_roundg (n - (k + 1))
          case measure => have := HG.out; omega
          case rel => exact ⟨k + 1, by omega, rfl, by go_num, HB1.out, HNEXT.out⟩
      · have hfin : clashF a b = true := by rw [hstep, hcl]; rfl
        have hz : 0 ≤ z := by simp at hcl; exact hcl.1
        have hzy : (z != y) = true := by simp at hcl; simpa using hcl.2
        have HSTEP := Lib.hid hstep
        have HFIN := Lib.hid hfin
        clear hstep hfin
        clear hcl
        go_wp2_with (go_at_call 43; refine HVC.out.mono ?_; rintro e w1 ⟨rfl, hb1⟩; have q0 : w1.cell? ⟨wr.heap.size, 0, none⟩ = some (.int .i64 x) := kept hb1 (by simp); have q1 : w1.cell? ⟨wr.heap.size, 1, none⟩ = some (.int .i64 y) := kept hb1 (by simp); have HB1 := Lib.hid (belowT (belowA hB _) hb1); clear hb1)
        go_ret
        exact ⟨by rw [HFIN.out]; rfl, HB1.out⟩
    · have hfin : clashF a b = false := by rw [HF.out, List.drop_eq_nil_of_le (by have := HN.out; omega)]; rfl
      have HFIN := Lib.hid hfin
      clear hfin
      go_wp2
      go_ret
      exact ⟨by rw [HFIN.out]; rfl, hB⟩
end Go.Proofs.Ytpogmkplmcedlaa
