/- The walk of stratagemlaw06.PartialCounts. -/
import Derived.Test.YtpogmkplmcedlaaPlainN
import Derived.Test.YtpogmkplmcedlaaLawSplits
namespace Go.Proofs.Ytpogmkplmcedlaa
open Go.RowKit

theorem splitsOf_at (W : List Fact → Fact → List Fact) (p : List Fact) (v : Int) (n k : Nat) (q : List Fact) (h : (splitsOf W p v n)[k]? = some q) : k < n ∧ q = W p (v, (k : Int)) := by
  unfold splitsOf at h
  rw [List.getElem?_map] at h
  cases hk : (List.range n)[k]? with
  | none => rw [hk] at h; cases h
  | some j =>
    rw [hk] at h
    obtain ⟨h1, h2⟩ := List.getElem?_eq_some_iff.1 hk
    simp at h1 h2
    subst h2
    simp at h
    exact ⟨h1, h.symm⟩
theorem splitF_cases (vars : List Int) (p : List Fact) (v : Int) : ((splitF pwithF vars p v).2 ≠ 0 ∧ (splitF pwithF vars p v).1 = []) ∨
    ((splitF pwithF vars p v).2 = 0 ∧ propF vars p = true ∧ 0 ≤ v ∧ v < vars.length ∧ valueF p v < 0 ∧ (splitF pwithF vars p v).1 = splitsOf pwithF p v (vars.getD v.toNat 0).toNat) := by
  unfold splitF
  split
  · rename_i h1
    split
    · rename_i h2
      split
      · exact .inl ⟨by simp, rfl⟩
      · rename_i h3
        exact .inr ⟨rfl, h1, h2.1, h2.2, by omega, rfl⟩
    · exact .inl ⟨by simp, rfl⟩
  · exact .inl ⟨by simp, rfl⟩

set_option maxHeartbeats 4000000 in
set_option maxRecDepth 100000 in
theorem lawCounts_calls (sv pv : Value) (vars : List Int) (p : List Fact) (v : Int) (w : World) (hs : IntsAt w sv vars) (hp : FactsAt w pv p) :
    Calls Try.prog 7 #[sv, pv, .int .i64 v] w fun e w' => e = .returned (.bool true) ∧ Below w.heap.size w w' := by
  obtain ⟨A, n, c, rfl, hn, hm⟩ := hs.form
  obtain ⟨pA, pn, pc, rfl, hpn, hpm⟩ := hp.form
  by_cases h100 : (40 : Int) < (n : Int) + pn
  · have HS := Lib.hid hs
    have HP := Lib.hid hp
    have HN := Lib.hid hn
    have HPN := Lib.hid hpn
    clear hs hp hn hpn
    go_enter Try.func7, Try.ntmps7
    go_wp2_with (go_at_call 9; refine (awake_calls _).mono ?_; rintro e w1 ⟨rfl, hb1⟩)
    go_ret
    exact ⟨rfl, hb1⟩
  · have HS := Lib.hid hs
    have HP := Lib.hid hp
    have HN := Lib.hid hn
    have HPN := Lib.hid hpn
    clear hs hp hn hpn
    go_enter Try.func7, Try.ntmps7
    go_wp2_with (go_at_call 9; refine (awake_calls _).mono ?_; rintro e w1 ⟨rfl, hb1⟩)
    go_loopg [27] n (fun g i wr => ∃ k : Nat, k ≤ n ∧ g = n - k ∧ i = .int .i64 k ∧ Below w.heap.size w wr ∧ ∀ (i : Nat) (x : Int), i < k → vars[i]? = some x → x ≤ 100)
    case atStart => exact ⟨0, Nat.zero_le _, by omega, rfl, hb1, fun i x hi => by omega⟩
    case round =>
      obtain ⟨k, hk, hg, rfl, hB, hF⟩ := hrel
      have HG := Lib.hid hg
      have HF := Lib.hid hF
      clear hg hF
      by_cases hlt : k < n
      · obtain ⟨b, off, x, rfl, c0, hx, hd⟩ := (HS.out.keep hB).at hlt
        by_cases hx1 : 100 < x
        · have HX := Lib.hid hx
          have HD := Lib.hid hd
          clear hx hd
          go_wp2
          go_ret
          exact ⟨rfl, hB⟩
        · have hnext : ∀ (i : Nat) (y : Int), i < k + 1 → vars[i]? = some y → y ≤ 100 := by
            intro i y hi hy
            by_cases hik : i < k
            · exact HF.out i y hik hy
            · obtain rfl : i = k := by omega
              rw [hx] at hy
              injection hy with hy
              omega
          have HX := Lib.hid hx
          have HD := Lib.hid hd
          have HNEXT := Lib.hid hnext
          clear hx hd hnext
          go_wp2
          go_roundg (n - (k + 1))
          case measure => have := HG.out; omega
          case rel => exact ⟨k + 1, by omega, rfl, by go_num, hB, HNEXT.out⟩
      · have hall : ∀ x ∈ vars, x ≤ 100 := all_of_idx HN.out (fun i x hi => HF.out i x (by omega))
        have hpl : p.length ≤ 1000 := by have := HPN.out; omega
        have h1 := split_calls _ _ vars p v wr (HS.out.keep hB) (HP.out.keep hB) hpl (fun k hk => by have := hall k hk; omega)
        clear HF HG hk
        rcases splitF_cases vars p v with ⟨hc1, hc2⟩ | ⟨hc1, hpr, hv0, hv1, hf, hc2⟩
        · rw [hc2, errV_ne hc1] at h1
          have HALL := Lib.hid hall
          have HPL := Lib.hid hpl
          have H1 := Lib.hid h1
          have HC1 := Lib.hid hc1
          have HC2 := Lib.hid hc2
          clear hall hpl h1 hc1 hc2
          go_wp2_with (go_at_call 22; refine H1.out.mono ?_; rintro e w3 ⟨v3, rfl, hown3, hb3⟩; obtain ⟨A3, c3, hv3⟩ := hown3.form; simp only [List.length_nil] at hv3; subst hv3)
          go_ret
          exact ⟨rfl, belowT hB hb3⟩
        · rw [hc1, hc2, errV_zero] at h1
          obtain ⟨C, hC0, hC1, hC2, hC3⟩ := sum_split hpr hv0 hv1 hf
          have hz100 : (vars.getD v.toNat 0).toNat ≤ 100 := by
            rw [List.getD_eq_getElem?_getD]
            cases hq : vars[v.toNat]? with
            | none => simp
            | some k => have := hall k (List.mem_of_getElem? hq); simp; omega
          have hcon : ∀ x : Nat, x < (vars.getD v.toNat 0).toNat → ContainsF (pwithF p (v, (x : Int))) p = true := fun x hx => pw_contains hpr hv0 hv1 hf (by omega) (by omega)
          have hcp := fun (W : World) (hb : Below w.heap.size w W) => count_calls _ _ vars p W (HS.out.keep hb) (HP.out.keep hb)
          rw [hC3] at hcp
          generalize (vars.getD v.toNat 0).toNat = z at *
          have hll := splitsOf_len pwithF p v z
          have hlist : ∀ (W : World) (vv : Value), OwnL W wr.heap.size vv (splitsOf pwithF p v z) → ListsAt W vv (splitsOf pwithF p v z) := fun W vv h => h.lists (by rw [hll]; omega)
          have hzC : 0 ≤ (z : Int) * C ∧ (z : Int) * C ≤ 6553700 := by
            have h1 := Int.mul_nonneg (show 0 ≤ (z : Int) by omega) hC0
            have h2 := Int.mul_le_mul (show (z : Int) ≤ 100 by omega) hC1 hC0 (by omega)
            omega
          have HALL := Lib.hid hall
          have HPL := Lib.hid hpl
          have H1 := Lib.hid h1
          have HC1' := Lib.hid hc1
          have HC2' := Lib.hid hc2
          have HPR := Lib.hid hpr
          have HF := Lib.hid hf
          have HC2 := Lib.hid hC2
          have HC3 := Lib.hid hC3
          have HCON := Lib.hid hcon
          have HCP := Lib.hid hcp
          have HLL := Lib.hid hll
          have HLIST := Lib.hid hlist
          clear hall hpl h1 hc1 hc2 hpr hf hC2 hC3 hcon hcp hll hlist
          go_wp2_with (go_at_call 22; refine H1.out.mono ?_; rintro e w3 ⟨v3, rfl, hown3, hb3⟩; have HL3 := Lib.hid (HLIST.out _ _ hown3); have HO3 := Lib.hid hown3; obtain ⟨A3, c3, rfl⟩ := hown3.form; clear hown3)
          have hB3 := belowT hB hb3
          go_loopg [11, 48] z (fun g s i wr => ∃ (k : Nat) (S : Int), k ≤ z ∧ g = z - k ∧ i = .int .i64 k ∧ s = .int .i64 S ∧ 0 ≤ S ∧ S ≤ 6553700 ∧ S = k * C ∧ Below w3.heap.size w3 wr)
          case atStart => exact ⟨0, 0, Nat.zero_le _, by omega, rfl, rfl, by omega, by omega, by simp, Below.refl _ _⟩
          case round =>
            obtain ⟨k, S, hk, hg, rfl, rfl, hS0, hS1, hS, hBi⟩ := hrel
            have hB4 := belowT hB3 hBi
            have hlen0 := HLL.out
            by_cases hltk : k < z
            · obtain ⟨b, off, xA, xn, xc, x, rfl, c0, hxn, hxm, hxv, hx, hd⟩ := (HL3.out.keep hBi).at (k := k) (by omega)
              obtain ⟨_, hxe⟩ := splitsOf_at _ _ _ _ _ _ hx
              have hbr : b < wr.heap.size := lt_of_cell c0
              have h5 := Contains_calls _ _ x p wr hxv (HP.out.keep hB4)
              have h6 := fun (W : World) (hb : Below wr.heap.size wr W) => count_calls _ _ vars x W (HS.out.keep (belowT hB4 hb)) (hxv.keep hb)
              rw [hxe, HCON.out k hltk] at h5
              rw [hxe, HC2.out k hltk] at h6
              have hxl : (xn : Int) = (pn : Int) + 1 := by have := HPN.out; rw [hxn, hxe, pwithF_len]; omega
              have hnz : (xn : Int) ≠ (pn : Int) + 1 ↔ False := by simp [hxl]
              have hxn2 : xn = pn + 1 := by omega
              have hSn : S + C = ((k + 1 : Nat) : Int) * C := by rw [hS]; push_cast; rw [Int.add_mul, Int.one_mul]
              have hSb : S + C ≤ 6553700 := by
                rw [hSn]
                have := Int.mul_le_mul_of_nonneg_right (show ((k + 1 : Nat) : Int) ≤ (z : Int) by omega) hC0
                omega
              have hlt' : (k : Int) < ((splitsOf pwithF p v z).length : Int) := by rw [hlen0]; omega
              have hlt2 : k < (splitsOf pwithF p v z).length := by rw [hlen0]; omega
              clear hnz hxl
              subst hxn2
              have HX := Lib.hid hx
              have HD := Lib.hid hd
              have HXV := Lib.hid hxv
              have HXN := Lib.hid hxn
              have H5 := Lib.hid h5
              have H6 := Lib.hid h6
              have HXE := Lib.hid hxe
              have HSN := Lib.hid hSn
              have HSS := Lib.hid hS
              have HG := Lib.hid hg
              have HLEN0 := Lib.hid hlen0
              clear hx hd hxv hxn h5 h6 hxe hSn hS hg hlen0
              go_wp2_with (first
                | (go_at_call 16; refine H5.out.mono ?_; rintro e w5 ⟨rfl, hb5⟩)
                | (go_at_call 24; refine (H6.out _ hb5).mono ?_; rintro e w6 ⟨rfl, hb6⟩))
              go_roundg (z - (k + 1))
              case measure => have := HG.out; omega
              case rel => exact ⟨k + 1, S + C, by omega, rfl, by go_num, by first | rfl | go_num, by omega, hSb, HSN.out, belowT hBi (belowT hb5 hb6)⟩
            · have hkz : k = z := by omega
              have h7 := HCP.out _ hB4
              have hge : ¬ ((k : Int) < ((splitsOf pwithF p v z).length : Int)) := by rw [hlen0]; omega
              have hge2 : ¬ (k < (splitsOf pwithF p v z).length) := by rw [hlen0]; omega
              rw [show (z : Int) * C = S by rw [hS, hkz]] at h7
              have H7 := Lib.hid h7
              have HSS := Lib.hid hS
              have HG := Lib.hid hg
              have HLEN0 := Lib.hid hlen0
              have HKZ := Lib.hid hkz
              clear h7 hS hg hlen0 hkz
              go_wp2_with (go_at_call 24; refine H7.out.mono ?_; rintro e w5 ⟨rfl, hb5⟩)
              all_goals go_ret
              all_goals exact ⟨by first | rfl | simp | (simp; omega), belowT hB4 hb5⟩
end Go.Proofs.Ytpogmkplmcedlaa
