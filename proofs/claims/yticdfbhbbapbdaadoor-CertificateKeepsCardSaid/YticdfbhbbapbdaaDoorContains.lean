/- partial.contains, partial.Contains, stratagemref06.Contains, stratagemref06.Clash. -/
import Derived.Test.YticdfbhbbapbdaaDoorValue
import Derived.Test.YticdfbhbbapbdaaDoorIs
import Derived.Deep.RegionHeld3
namespace Go.Proofs.YticdfbhbbapbdaaDoor
open Go.RowKit

def containsF (a b : List Fact) : Bool := b.all fun x => valueF a x.1 == x.2
def ContainsF (a b : List Fact) : Bool := isF a && isF b && containsF a b
def clashF (a b : List Fact) : Bool := a.any fun x => decide (0 ≤ valueF b x.1) && (valueF b x.1 != x.2)


set_option maxHeartbeats 1000000 in
theorem contains_calls (u v : Value) (a b : List Fact) (w : World) (hu : FactsAt w u a) (hv : FactsAt w v b) :
    Calls Tryd.prog 52 #[u, v] w fun e w' => e = .returned (.bool (containsF a b)) ∧ Below w.heap.size w w' := by
  obtain ⟨A, n, c, rfl, hn, hm⟩ := hv.form
  obtain ⟨A', n', c', rfl, hn', hm'⟩ := hu.form
  have HU := Lib.hid hu
  have HV := Lib.hid hv
  have HN := Lib.hid hn
  have HN' := Lib.hid hn'
  clear hu hv hn hn'
  go_enter Tryd.func52, Tryd.ntmps52
  go_wp2
  go_loopg [9] n (fun g i wr => ∃ k : Nat, k ≤ n ∧ g = n - k ∧ i = .int .i64 k ∧ Below w.heap.size w wr ∧ containsF a b = containsF a (b.drop k))
  case atStart => exact ⟨0, Nat.zero_le _, by omega, rfl, Below.refl _ _, rfl⟩
  case round =>
    obtain ⟨k, hk, hg, rfl, hB, hF⟩ := hrel
    have HG := Lib.hid hg
    have HF := Lib.hid hF
    clear hg hF
    by_cases hlt : k < n
    · obtain ⟨bb, off, x, y, rfl, c0, c1, hx, hd⟩ := (HV.out.keep hB).at hlt
      have hbr : bb < wr.heap.size := lt_of_cell c0
      have hau := HU.out.keep hB
      have hb0 : Below wr.heap.size wr (wr.alloc (.cells #[.int .i64 x, .int .i64 y] 54)).drew := (belowA (Below.refl _ _) _).drew
      have hvc := find_calls _ a x _ (hau.keep hb0)
      have HX := Lib.hid hx
      have HD := Lib.hid hd
      have HAU := Lib.hid hau
      have HVC := Lib.hid hvc
      have HB0 := Lib.hid hb0
      clear hx hd hau hvc hb0
      go_upto_region 4 with fail
      go_cut [19] (fun t wx => t = .bool (valueF a x != y) ∧ Below w.heap.size w wx)
      case first =>
        go_region_held3 (fun w' => w'.cell? ⟨wr.heap.size, 0, none⟩ = some (.int .i64 x) ∧ w'.cell? ⟨wr.heap.size, 1, none⟩ = some (.int .i64 y))
          (first | exact ⟨q0, q1⟩ | exact ⟨by simp, by simp⟩)
          (first
            | (go_at_call 65; refine HVC.out.mono ?_; rintro e w1 ⟨rfl, hb1⟩; have q0 : w1.cell? ⟨wr.heap.size, 0, none⟩ = some (.int .i64 x) := kept hb1 (by simp); have q1 : w1.cell? ⟨wr.heap.size, 1, none⟩ = some (.int .i64 y) := kept hb1 (by simp); have HB1 := Lib.hid (belowT hB (belowT HB0.out hb1)); clear hb1)
            | fail)
        all_goals (go_wp2_with fail; go_meet; exact ⟨rfl, HB1.out⟩)
      case rest =>
        obtain ⟨rfl, hB'⟩ := hcut
        cases hbad : (valueF a x != y)
        · have hnext : containsF a b = containsF a (b.drop (k + 1)) := by
            rw [HF.out, HD.out]
            have : (valueF a x == y) = true := by simpa using hbad
            simp [containsF, this]
          have HNEXT := Lib.hid hnext
          clear hnext
          go_wp2
          go_roundg (n - (k + 1))
          case measure => have := HG.out; omega
          case rel => exact ⟨k + 1, by omega, rfl, by go_num, hB', HNEXT.out⟩
        · have hfin : containsF a b = false := by
            rw [HF.out, HD.out]
            have : (valueF a x == y) = false := by simpa using hbad
            simp [containsF, this]
          have HFIN := Lib.hid hfin
          clear hfin
          go_wp2
          go_ret
          exact ⟨by skip; rw [HFIN.out]; rfl, hB'⟩
    · have hfin : containsF a b = true := by rw [HF.out, List.drop_eq_nil_of_le (by have := HN.out; omega)]; rfl
      have HFIN := Lib.hid hfin
      clear hfin
      go_wp2
      go_ret
      exact ⟨by skip; rw [HFIN.out]; rfl, hB⟩

set_option maxHeartbeats 1000000 in
theorem Contains_calls (u v : Value) (a b : List Fact) (w : World) (hu : FactsAt w u a) (hv : FactsAt w v b) :
    Calls Tryd.prog 27 #[u, v] w fun e w' => e = .returned (.bool (ContainsF a b)) ∧ Below w.heap.size w w' := by
  obtain ⟨A, n, c, rfl, hn, hm⟩ := hv.form
  obtain ⟨A', n', c', rfl, hn', hm'⟩ := hu.form
  have h1 := valid_calls _ a w hu
  have h2 := fun (W : World) (hb : Below w.heap.size w W) => valid_calls _ b W (hv.keep hb)
  have h3 := fun (W : World) (hb : Below w.heap.size w W) => contains_calls _ _ a b W (hu.keep hb) (hv.keep hb)
  unfold ContainsF
  cases ha : isF a
  · rw [ha] at h1
    have H1 := Lib.hid h1
    have H2 := Lib.hid h2
    have H3 := Lib.hid h3
    have HA := Lib.hid ha
    have HU := Lib.hid hu
    have HV := Lib.hid hv
    have HN := Lib.hid hn
    have HN' := Lib.hid hn'
    clear h1 h2 h3 ha hu hv hn hn'
    go_enter Tryd.func27, Tryd.ntmps27
    go_wp2_with (go_at_call_of 51 (Value.slice A' n' c'); refine H1.out.mono ?_; rintro e w1 ⟨rfl, hb1⟩)
    go_ret
    exact ⟨by simp, hb1⟩
  · cases hb : isF b
    · rw [ha] at h1
      rw [hb] at h2
      have H1 := Lib.hid h1
      have H2 := Lib.hid h2
      have H3 := Lib.hid h3
      have HA := Lib.hid ha
      have HB := Lib.hid hb
      have HU := Lib.hid hu
      have HV := Lib.hid hv
      have HN := Lib.hid hn
      have HN' := Lib.hid hn'
      clear h1 h2 h3 ha hb hu hv hn hn'
      go_enter Tryd.func27, Tryd.ntmps27
      go_wp2_with fail
      refine H1.out.mono ?_
      rintro e w1 ⟨rfl, hb1⟩
      go_wp2_with fail
      refine (H2.out _ hb1).mono ?_
      rintro e w2 ⟨rfl, hb2⟩
      go_wp2_with fail
      go_ret
      exact ⟨by simp, belowT hb1 hb2⟩
    · rw [ha] at h1
      rw [hb] at h2
      have H1 := Lib.hid h1
      have H2 := Lib.hid h2
      have H3 := Lib.hid h3
      have HA := Lib.hid ha
      have HB := Lib.hid hb
      have HU := Lib.hid hu
      have HV := Lib.hid hv
      have HN := Lib.hid hn
      have HN' := Lib.hid hn'
      clear h1 h2 h3 ha hb hu hv hn hn'
      go_enter Tryd.func27, Tryd.ntmps27
      go_wp2_with fail
      refine H1.out.mono ?_
      rintro e w1 ⟨rfl, hb1⟩
      go_wp2_with fail
      refine (H2.out _ hb1).mono ?_
      rintro e w2 ⟨rfl, hb2⟩
      go_wp2_with fail
      refine (H3.out _ (belowT hb1 hb2)).mono ?_
      rintro e w3 ⟨rfl, hb3⟩
      go_wp2_with fail
      go_ret
      exact ⟨by simp, belowT (belowT hb1 hb2) hb3⟩

set_option maxHeartbeats 1000000 in
theorem rContains_calls (u v : Value) (a b : List Fact) (w : World) (hu : FactsAt w u a) (hv : FactsAt w v b) :
    Calls Tryd.prog 50 #[u, v] w fun e w' => e = .returned (.bool (ContainsF a b)) ∧ Below w.heap.size w w' := by
  obtain ⟨A, n, c, rfl, hn, hm⟩ := hv.form
  obtain ⟨A', n', c', rfl, hn', hm'⟩ := hu.form
  have h1 := is_calls _ a w hu
  have h2 := fun (W : World) (hb : Below w.heap.size w W) => is_calls _ b W (hv.keep hb)
  cases ha : isF a
  · have hfin : ContainsF a b = false := by simp [ContainsF, ha]
    rw [hfin]
    rw [ha] at h1
    have H1 := Lib.hid h1
    have H2 := Lib.hid h2
    have HA := Lib.hid ha
    have HU := Lib.hid hu
    have HV := Lib.hid hv
    have HN := Lib.hid hn
    have HN' := Lib.hid hn'
    have HFIN := Lib.hid hfin
    clear h1 h2 ha hu hv hn hn' hfin
    go_enter Tryd.func50, Tryd.ntmps50
    go_wp2_with (go_at_call 31; refine H1.out.mono ?_; rintro e w1 ⟨rfl, hb1⟩)
    go_ret
    exact ⟨rfl, hb1⟩
  · cases hb : isF b
    · have hfin : ContainsF a b = false := by simp [ContainsF, hb]
      rw [hfin]
      rw [ha] at h1
      rw [hb] at h2
      have H1 := Lib.hid h1
      have H2 := Lib.hid h2
      have HA := Lib.hid ha
      have HB := Lib.hid hb
      have HU := Lib.hid hu
      have HV := Lib.hid hv
      have HN := Lib.hid hn
      have HN' := Lib.hid hn'
      have HFIN := Lib.hid hfin
      clear h1 h2 ha hb hu hv hn hn' hfin
      go_enter Tryd.func50, Tryd.ntmps50
      go_wp2_with fail
      refine H1.out.mono ?_
      rintro e w1 ⟨rfl, hb1⟩
      go_wp2_with fail
      refine (H2.out _ hb1).mono ?_
      rintro e w2 ⟨rfl, hb2⟩
      go_wp2_with fail
      go_ret
      exact ⟨rfl, belowT hb1 hb2⟩
    · have hcf : ContainsF a b = containsF a b := by simp [ContainsF, ha, hb]
      rw [ha] at h1
      rw [hb] at h2
      have H1 := Lib.hid h1
      have H2 := Lib.hid h2
      have HA := Lib.hid ha
      have HB := Lib.hid hb
      have HU := Lib.hid hu
      have HV := Lib.hid hv
      have HN := Lib.hid hn
      have HN' := Lib.hid hn'
      have HCF := Lib.hid hcf
      clear h1 h2 ha hb hu hv hn hn' hcf
      go_enter Tryd.func50, Tryd.ntmps50
      go_wp2_with fail
      refine H1.out.mono ?_
      rintro e w1 ⟨rfl, hb1⟩
      go_wp2_with fail
      refine (H2.out _ hb1).mono ?_
      rintro e w2 ⟨rfl, hb2⟩
      have hbw2 := belowT hb1 hb2
      clear hb1 hb2
      go_wp2_with fail
      go_loopg [17] n (fun g i wr => ∃ k : Nat, k ≤ n ∧ g = n - k ∧ i = .int .i64 k ∧ Below w.heap.size w wr ∧ containsF a b = containsF a (b.drop k))
      case atStart => exact ⟨0, Nat.zero_le _, by omega, rfl, hbw2, rfl⟩
      case round =>
        obtain ⟨k, hk, hg, rfl, hB, hF⟩ := hrel
        have HG := Lib.hid hg
        have HF := Lib.hid hF
        clear hg hF
        by_cases hlt : k < n
        · obtain ⟨bb, off, x, y, rfl, c0, c1, hx, hd⟩ := (HV.out.keep hB).at hlt
          have hbr : bb < wr.heap.size := lt_of_cell c0
          have hau := HU.out.keep hB
          have hb0 : Below wr.heap.size wr (wr.alloc (.cells #[.int .i64 x, .int .i64 y] 54)).drew := (belowA (Below.refl _ _) _).drew
          have hvc := value_calls _ a x _ (hau.keep hb0)
          have HX := Lib.hid hx
          have HD := Lib.hid hd
          have HAU := Lib.hid hau
          have HVC := Lib.hid hvc
          have HB0 := Lib.hid hb0
          clear hx hd hau hvc hb0
          go_upto_region 6 with fail
          go_cut [27] (fun t wx => t = .bool (valueF a x != y) ∧ Below w.heap.size w wx)
          case first =>
            go_region_held3 (fun w' => w'.cell? ⟨wr.heap.size, 0, none⟩ = some (.int .i64 x) ∧ w'.cell? ⟨wr.heap.size, 1, none⟩ = some (.int .i64 y))
              (first | exact ⟨q0, q1⟩ | exact ⟨by simp, by simp⟩)
              (first
                | (go_at_call 64; refine HVC.out.mono ?_; rintro e w1 ⟨rfl, hb1⟩; have q0 : w1.cell? ⟨wr.heap.size, 0, none⟩ = some (.int .i64 x) := kept hb1 (by simp); have q1 : w1.cell? ⟨wr.heap.size, 1, none⟩ = some (.int .i64 y) := kept hb1 (by simp); have HB1 := Lib.hid (belowT hB (belowT HB0.out hb1)); clear hb1)
                | fail)
            all_goals (go_wp2_with fail; go_meet; exact ⟨rfl, HB1.out⟩)
          case rest =>
            obtain ⟨rfl, hB'⟩ := hcut
            cases hbad : (valueF a x != y)
            · have hnext : containsF a b = containsF a (b.drop (k + 1)) := by
                rw [HF.out, HD.out]
                have : (valueF a x == y) = true := by simpa using hbad
                simp [containsF, this]
              have HNEXT := Lib.hid hnext
              clear hnext
              go_wp2
              go_roundg (n - (k + 1))
              case measure => have := HG.out; omega
              case rel => exact ⟨k + 1, by omega, rfl, by go_num, hB', HNEXT.out⟩
            · have hfin : containsF a b = false := by
                rw [HF.out, HD.out]
                have : (valueF a x == y) = false := by simpa using hbad
                simp [containsF, this]
              have HFIN := Lib.hid hfin
              clear hfin
              go_wp2
              go_ret
              exact ⟨by rw [HCF.out]; rw [HFIN.out]; rfl, hB'⟩
        · have hfin : containsF a b = true := by rw [HF.out, List.drop_eq_nil_of_le (by have := HN.out; omega)]; rfl
          have HFIN := Lib.hid hfin
          clear hfin
          go_wp2
          go_ret
          exact ⟨by rw [HCF.out]; rw [HFIN.out]; rfl, hB⟩
end Go.Proofs.YticdfbhbbapbdaaDoor
