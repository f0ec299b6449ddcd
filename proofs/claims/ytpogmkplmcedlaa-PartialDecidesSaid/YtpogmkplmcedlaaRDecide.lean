/- stratagemref06.decide. -/
import Derived.Test.YtpogmkplmcedlaaDecF
import Derived.Test.YtpogmkplmcedlaaLists
import Derived.Test.YtpogmkplmcedlaaRMake
namespace Go.Proofs.Ytpogmkplmcedlaa
open Go.RowKit

theorem loopF_step (f : Int → Int → Bool × Int) (most s : Int) (Z k : Nat) (h : k < Z) : loopF f most (Z - k) k s = if !(f k (most - s)).1 || decide (most < s + (f k (most - s)).2) then (false, s + (f k (most - s)).2) else loopF f most (Z - (k + 1)) ((k + 1 : Nat) : Int) (s + (f k (most - s)).2) := by
  rw [show Z - k = (Z - (k + 1)) + 1 by omega, loopF]
  rfl
theorem hit_step (r : List Fact) (x : List Fact) (t : List (List Fact)) : hitL r (x :: t) = (ContainsF r x || hitL r t) := rfl
theorem some_step (r : List Fact) (x : List Fact) (t : List (List Fact)) : someL r (x :: t) = (!clashF r x || someL r t) := rfl

structure DecPre (vars : List Int) (list : List (List Fact)) (d : Nat) (r : List Fact) : Prop where
  prop : propF vars r = true
  all : ∀ x ∈ list, propF vars x = true
  deep : vars.length < d + r.length
  low : vars.length ≤ 100
  prod : prodL r 0 (ones vars) ≤ 1000000
theorem DecPre.le {vars : List Int} {list : List (List Fact)} {d : Nat} {r : List Fact} (h : DecPre vars list d r) (hd : d ≤ 101) (m : Int) : 1 ≤ (decF vars list d r m).2 ∧ (decF vars list d r m).2 ≤ 101000000 := by
  obtain ⟨h1, h2⟩ := dec_bound h.all d r m h.prop h.deep
  have hP := prodL_pos r (ones vars) 0 (ones_pos vars)
  have h3 := Int.mul_le_mul (show (d : Int) ≤ 101 by omega) h.prod (by omega) (by omega)
  exact ⟨h1, by omega⟩
theorem DecPre.step {vars : List Int} {list : List (List Fact)} {d : Nat} {r : List Fact} (h : DecPre vars list (d + 1) r) {v y : Int} (v0 : 0 ≤ v) (v1 : v < vars.length) (hf : valueF r v < 0) (hy0 : 0 ≤ y) (hy1 : y < vars.getD v.toNat 0) : DecPre vars list d (pwithF r (v, y)) := by
  have hpr := (pw_prodL h.prop v0 hf (x := y) hy0 (ones vars) 0).2 (by omega) (by simp [ones]; omega)
  rw [Nat.sub_zero, ones_at v0 v1] at hpr
  have hQ := prodL_pos (pwithF r (v, y)) (ones vars) 0 (ones_pos vars)
  refine ⟨pw_prop h.prop v0 v1 hf hy0 hy1, h.all, by rw [pwithF_len]; have := h.deep; omega, h.low, ?_⟩
  have h2 := h.prod
  rw [hpr] at h2
  have h3 := Int.mul_le_mul_of_nonneg_right (show 1 ≤ max (vars.getD v.toNat 0) 1 by omega) (show 0 ≤ prodL (pwithF r (v, y)) 0 (ones vars) by omega)
  omega

set_option maxHeartbeats 4000000 in
set_option maxRecDepth 100000 in
theorem rdecide_calls (vars : List Int) (list : List (List Fact)) : ∀ (d : Nat) (sv rv lv : Value) (r : List Fact) (most : Int) (w : World), d ≤ 101 → IntsAt w sv vars → FactsAt w rv r → ListsAt w lv list → DecPre vars list d r → most ≤ 9223372036854775807 →
    Calls Try.prog 51 #[sv, rv, lv, .int .i64 most] w fun e w' => e = .returned (.tuple #[.bool (decF vars list d r most).1, .int .i64 (decF vars list d r most).2]) ∧ Below w.heap.size w w'
  | 0, sv, rv, lv, r, most, w, hd, hs, hr, hl, hpre, hmost => by have := prop_len hpre.prop; have := hpre.deep; omega
  | d + 1, sv, rv, lv, r, most, w, hd, hs, hr, hl, hpre, hmost => by
    obtain ⟨A, n, c, rfl, hn, hm⟩ := hl.form
    obtain ⟨sA, sn, sc, rfl, hsn, hsm⟩ := hs.form
    obtain ⟨rA, rn, rc, rfl, hrn, hrm⟩ := hr.form
    have ih := rdecide_calls vars list d
    by_cases hmo : most < 1
    · have hfin : decF vars list (d + 1) r most = (false, 1) := by rw [decF, if_pos hmo]
      rw [hfin]
      clear ih
      have HS := Lib.hid hs
      have HR := Lib.hid hr
      have HL := Lib.hid hl
      have HN := Lib.hid hn
      have HSN := Lib.hid hsn
      have HRN := Lib.hid hrn
      have HFIN := Lib.hid hfin
      have HPRE := Lib.hid hpre
      clear hs hr hl hn hsn hrn hfin hpre
      go_enter Try.func51, Try.ntmps51
      go_wp2
      go_ret2
      exact ⟨rfl, Below.refl _ _⟩
    · have hdec : decF vars list (d + 1) r most = if hitL r list then (true, 1) else if !someL r list then (false, 1)
          else loopF (fun x m => decF vars list d (withF r (leastL r vars.length list, x)) m) most (vars.getD (leastL r vars.length list).toNat 0).toNat 0 1 := by rw [decF, if_neg hmo]
      obtain ⟨D, hD⟩ : ∃ D, decF vars list (d + 1) r most = D := ⟨_, rfl⟩
      rw [hD] at hdec ⊢
      have hsn' : ((sn : Int)) = (vars.length : Int) := by omega
      have HS := Lib.hid hs
      have HR := Lib.hid hr
      have HL := Lib.hid hl
      have HN := Lib.hid hn
      have HSN := Lib.hid hsn
      have HRN := Lib.hid hrn
      have HPRE := Lib.hid hpre
      have HDEC := Lib.hid hdec
      have HD := Lib.hid hD
      have IH := Lib.hid ih
      have HSN' := Lib.hid hsn'
      clear hs hr hl hn hsn hrn hpre hdec hD ih hsn'
      go_enter Try.func51, Try.ntmps51
      go_wp2
      go_loopg [10, 11, 26] n (fun g lv sv i wr => ∃ (k : Nat) (m : Int) (b : Bool), k ≤ n ∧ g = n - k ∧ i = .int .i64 k ∧ lv = .int .i64 m ∧ sv = .bool b ∧ Below w.heap.size w wr ∧ hitL r list = hitL r (list.drop k) ∧ someL r list = (b || someL r (list.drop k)) ∧ leastL r vars.length list = leastL r m (list.drop k))
      case atStart => exact ⟨0, _, false, Nat.zero_le _, by omega, rfl, rfl, rfl, Below.refl _ _, rfl, by simp, by rw [← HSN'.out]; rfl⟩
      case round =>
        obtain ⟨k, m, b, hk, hg, rfl, rfl, rfl, hB, hF1, hF2, hF3⟩ := hrel
        have HG := Lib.hid hg
        have HF1 := Lib.hid hF1
        have HF2 := Lib.hid hF2
        have HF3 := Lib.hid hF3
        clear hg hF1 hF2 hF3
        by_cases hlt : k < n
        · obtain ⟨bb, off, xA, xn, xc, x, rfl, c0, hxn, hxm, hxv, hx, hdr⟩ := (HL.out.keep hB).at hlt
          have hbr : bb < wr.heap.size := lt_of_cell c0
          have h1 := rContains_calls _ _ r x _ (HR.out.keep hB) hxv
          have h2 := fun (W : World) (hb : Below wr.heap.size wr W) => clash_calls _ _ r x W ((HR.out.keep hB).keep hb) (hxv.keep hb)
          have hs1 : hitL r list = (ContainsF r x || hitL r (list.drop (k + 1))) := by rw [HF1.out, hdr, hit_step]
          have hs2 : someL r list = (b || (!clashF r x || someL r (list.drop (k + 1)))) := by rw [HF2.out, hdr, some_step]
          have hs3 : leastL r vars.length list = leastL r (if clashF r x then m else leastP r m x) (list.drop (k + 1)) := by rw [HF3.out, hdr, leastL]
          generalize ContainsF r x = tc at h1 hs1
          generalize clashF r x = tl at h2 hs2 hs3
          cases tc
          · cases tl
            · rw [Bool.not_false, Bool.true_or, Bool.or_true] at hs2
              simp only [Bool.false_eq_true, if_false] at hs3
              rw [Bool.false_or] at hs1
              have HX := Lib.hid hx
              have HDR := Lib.hid hdr
              have HXV := Lib.hid hxv
              have HXN := Lib.hid hxn
              have H1 := Lib.hid h1
              have H2 := Lib.hid h2
              have HS1 := Lib.hid hs1
              have HS2 := Lib.hid hs2
              have HS3 := Lib.hid hs3
              clear hx hdr hxv hxn h1 h2 hs1 hs2 hs3
              go_wp2_with (first
                | (go_at_call 17; refine H1.out.mono ?_; rintro e w2 ⟨rfl, hb2⟩)
                | (go_at_call 40; refine (H2.out _ hb2).mono ?_; rintro e w3 ⟨rfl, hb3⟩))
              have hB3 := belowT hB (belowT hb2 hb3)
              have hxv3 := HXV.out.keep (belowT hb2 hb3)
              have HXV3 := Lib.hid hxv3
              clear hxv3
              clear H1 H2 HXV hb2 hb3 hB
              go_loopg [10, 38] xn (fun g lv j wr => ∃ (i : Nat) (m' : Int), i ≤ xn ∧ g = xn - i ∧ j = .int .i64 i ∧ lv = .int .i64 m' ∧ Below w3.heap.size w3 wr ∧ leastP r m x = leastP r m' (x.drop i))
              case atStart => exact ⟨0, m, Nat.zero_le _, by omega, rfl, rfl, Below.refl _ _, rfl⟩
              case round =>
                obtain ⟨i, m', hi, hgi, rfl, rfl, hBi, hFI⟩ := hrel
                have HGI := Lib.hid hgi
                have HFI := Lib.hid hFI
                clear hgi hFI
                by_cases hlti : i < xn
                · obtain ⟨yb, yoff, y1, y2, rfl, y0, y1c, hy, hyd⟩ := (HXV3.out.keep hBi).at hlti
                  have hyb : yb < wr.heap.size := lt_of_cell y0
                  have h4 := value_calls _ r y1 _ (((HR.out.keep hB3).keep hBi).keep (belowA (Below.refl _ _) (.cells #[.int .i64 y1, .int .i64 y2] 56)))
                  have hst : leastP r m x = leastP r (if valueF r y1 < 0 then min m' y1 else m') (x.drop (i + 1)) := by rw [HFI.out, hyd, leastP]
                  generalize valueF r y1 = fv at h4 hst
                  have q0 : (wr.alloc (.cells #[.int .i64 y1, .int .i64 y2] 56)).cell? ⟨wr.heap.size, 0, none⟩ = some (.int .i64 y1) := by simp
                  by_cases hfv : fv < 0
                  · rw [if_pos hfv] at hst
                    rcases Int.lt_trichotomy m' y1 with hmy | hmy | hmy
                    · rw [show min m' y1 = m' by omega] at hst
                      have HY := Lib.hid hy
                      have HYD := Lib.hid hyd
                      have H4 := Lib.hid h4
                      have HST := Lib.hid hst
                      clear hy hyd h4 hst
                      go_wp2_with (go_at_call 37; refine H4.out.mono ?_; rintro e w5 ⟨rfl, hb5⟩; have q1 := kept hb5 q0)
                      go_roundg (xn - (i + 1))
                      case measure => have := HGI.out; omega
                      case rel => exact ⟨i + 1, m', by omega, rfl, by go_num, rfl, belowT hBi (belowT (belowA (Below.refl _ _) _) hb5), HST.out⟩
                    · subst hmy
                      rw [show min m' m' = m' by omega] at hst
                      have HY := Lib.hid hy
                      have HYD := Lib.hid hyd
                      have H4 := Lib.hid h4
                      have HST := Lib.hid hst
                      clear hy hyd h4 hst
                      go_wp2_with (go_at_call 37; refine H4.out.mono ?_; rintro e w5 ⟨rfl, hb5⟩; have q1 := kept hb5 q0)
                      go_roundg (xn - (i + 1))
                      case measure => have := HGI.out; omega
                      case rel => exact ⟨i + 1, m', by omega, rfl, by go_num, rfl, belowT hBi (belowT (belowA (Below.refl _ _) _) hb5), HST.out⟩
                    · rw [show min m' y1 = y1 by omega] at hst
                      have HY := Lib.hid hy
                      have HYD := Lib.hid hyd
                      have H4 := Lib.hid h4
                      have HST := Lib.hid hst
                      clear hy hyd h4 hst
                      go_wp2_with (go_at_call 37; refine H4.out.mono ?_; rintro e w5 ⟨rfl, hb5⟩; have q1 := kept hb5 q0)
                      go_roundg (xn - (i + 1))
                      case measure => have := HGI.out; omega
                      case rel => exact ⟨i + 1, y1, by omega, rfl, by go_num, rfl, belowT hBi (belowT (belowA (Below.refl _ _) _) hb5), HST.out⟩
                  · rw [if_neg hfv] at hst
                    have HY := Lib.hid hy
                    have HYD := Lib.hid hyd
                    have H4 := Lib.hid h4
                    have HST := Lib.hid hst
                    clear hy hyd h4 hst
                    go_wp2_with (go_at_call 37; refine H4.out.mono ?_; rintro e w5 ⟨rfl, hb5⟩; have q1 := kept hb5 q0)
                    go_roundg (xn - (i + 1))
                    case measure => have := HGI.out; omega
                    case rel => exact ⟨i + 1, m', by omega, rfl, by go_num, rfl, belowT hBi (belowT (belowA (Below.refl _ _) _) hb5), HST.out⟩
                · have hfin : leastP r m x = m' := by rw [HFI.out, List.drop_eq_nil_of_le (by have := HXN.out; omega), leastP]
                  have hnext3 : leastL r vars.length list = leastL r m' (list.drop (k + 1)) := by rw [HS3.out, hfin]
                  have HFIN := Lib.hid hfin
                  have HNEXT3 := Lib.hid hnext3
                  clear hfin hnext3
                  go_wp2_with fail
                  go_roundg (n - (k + 1))
                  case measure => have := HG.out; omega
                  case rel => exact ⟨k + 1, m', true, by omega, rfl, by go_num, rfl, rfl, belowT hB3 hBi, HS1.out, by rw [HS2.out]; simp, HNEXT3.out⟩
            · rw [Bool.not_true, Bool.false_or] at hs2
              simp only [if_true] at hs3
              rw [Bool.false_or] at hs1
              have HX := Lib.hid hx
              have HDR := Lib.hid hdr
              have HXV := Lib.hid hxv
              have HXN := Lib.hid hxn
              have H1 := Lib.hid h1
              have H2 := Lib.hid h2
              have HS1 := Lib.hid hs1
              have HS2 := Lib.hid hs2
              have HS3 := Lib.hid hs3
              clear hx hdr hxv hxn h1 h2 hs1 hs2 hs3
              go_wp2_with (first
                | (go_at_call 17; refine H1.out.mono ?_; rintro e w2 ⟨rfl, hb2⟩)
                | (go_at_call 40; refine (H2.out _ hb2).mono ?_; rintro e w3 ⟨rfl, hb3⟩))
              go_roundg (n - (k + 1))
              case measure => have := HG.out; omega
              case rel => exact ⟨k + 1, m, b, by omega, rfl, by go_num, rfl, rfl, belowT hB (belowT hb2 hb3), HS1.out, HS2.out, HS3.out⟩
          · have hfin : D = (true, 1) := by rw [HDEC.out, hs1]; rfl
            have HX := Lib.hid hx
            have HDR := Lib.hid hdr
            have HXV := Lib.hid hxv
            have HXN := Lib.hid hxn
            have H1 := Lib.hid h1
            have H2 := Lib.hid h2
            have HS1 := Lib.hid hs1
            have HS2 := Lib.hid hs2
            have HS3 := Lib.hid hs3
            have HFIN := Lib.hid hfin
            clear hx hdr hxv hxn h1 h2 hs1 hs2 hs3 hfin
            go_wp2_with (go_at_call 17; refine H1.out.mono ?_; rintro e w2 ⟨rfl, hb2⟩)
            go_ret2
            exact ⟨by rw [HFIN.out]; rfl, belowT hB hb2⟩
        · have hdn : list.drop k = [] := List.drop_eq_nil_of_le (by have := HN.out; omega)
          have h1 : hitL r list = false := by rw [HF1.out, hdn]; rfl
          have h2 : someL r list = b := by rw [HF2.out, hdn]; simp [someL]
          have h3 : leastL r vars.length list = m := by rw [HF3.out, hdn, leastL]
          have hdec := HDEC.out
          rw [h1, h2, h3] at hdec
          simp only [Bool.false_eq_true, if_false] at hdec
          cases b
          · simp only [Bool.not_false, if_true] at hdec
            have HDN := Lib.hid hdn
            have H1 := Lib.hid h1
            have H2 := Lib.hid h2
            have H3 := Lib.hid h3
            have HFIN := Lib.hid hdec
            clear hdn h1 h2 h3 hdec
            go_wp2_with fail
            go_ret2
            exact ⟨by rw [HFIN.out]; rfl, hB⟩
          · simp only [Bool.not_true, Bool.false_eq_true, if_false] at hdec
            obtain ⟨v0, v1, hfv⟩ := least_free HPRE.out.all HPRE.out.prop h1 h2
            rw [← least_rest HPRE.out.all HPRE.out.prop, ← leastL_eq, h3] at v0 v1 hfv
            have v1' : m < (sn : Int) := by have := HSN.out; omega
            obtain ⟨sb, soff, z, rfl, cz, hz⟩ := (HS.out.keep hB).num v0 v1'
            have hsb : sb < wr.heap.size := lt_of_cell cz
            rw [hz] at hdec
            have hz6 : z ≤ 1000000 := by
              have hpr := (pw_prodL HPRE.out.prop v0 hfv (x := 0) (by omega) (ones vars) 0).2 (by omega) (by simp [ones]; omega)
              rw [Nat.sub_zero, ones_at v0 v1, hz] at hpr
              have hQ := prodL_pos (pwithF r (m, 0)) (ones vars) 0 (ones_pos vars)
              have h2 := HPRE.out.prod
              rw [hpr] at h2
              have h3 := Int.mul_le_mul_of_nonneg_left hQ (show 0 ≤ max z 1 by omega)
              omega
            have hrl : r.length ≤ 1000 := by have := prop_len HPRE.out.prop; have := HPRE.out.low; omega
            have hasc := ((propF_iff vars r).1 HPRE.out.prop).1
            have hno := pw_none HPRE.out.prop hfv
            have hpre' : ∀ y : Nat, y < z.toNat → DecPre vars list d (withF r (m, (y : Int))) := fun y hy => by
              rw [← pwithF_eq r (m, (y : Int)) hasc hno]
              exact HPRE.out.step v0 v1 hfv (by omega) (by rw [hz]; omega)
            have hih := fun (W : World) (v : Value) (y : Nat) (mm : Int) (hy : y < z.toNat) (hb : Below w.heap.size w W) (hv : FactsAt W v (withF r (m, (y : Int)))) (hm : mm ≤ 9223372036854775807) => IH.out _ v _ (withF r (m, (y : Int))) mm W (by omega) (HS.out.keep hb) hv (HL.out.keep hb) (hpre' y hy) hm
            have hbd := fun (y : Nat) (mm : Int) (hy : y < z.toNat) => (hpre' y hy).le (by omega) mm
            have hwi := fun (W : World) (y : Nat) (hb : Below w.heap.size w W) => with_calls _ r m (y : Int) W (HR.out.keep hb) (by omega)
            have hwl := fun (y : Nat) => withF_len r (m, (y : Int))
            have HDN := Lib.hid hdn
            have H1 := Lib.hid h1
            have H2 := Lib.hid h2
            have H3 := Lib.hid h3
            have HFIN := Lib.hid hdec
            have HZ := Lib.hid hz
            have HFV := Lib.hid hfv
            have HASC := Lib.hid hasc
            have HNO := Lib.hid hno
            have HPRE' := Lib.hid hpre'
            have HIH := Lib.hid hih
            have HBD := Lib.hid hbd
            have HWI := Lib.hid hwi
            have HWL := Lib.hid hwl
            clear hdn h1 h2 h3 hdec hz hfv hasc hno hpre' hih hbd hwi hwl
            go_wp2_with fail
            go_loopg [16, 59] z.toNat (fun g sv i wr => ∃ (k : Nat) (S : Int), k ≤ z.toNat ∧ g = z.toNat - k ∧ i = .int .i64 k ∧ sv = .int .i64 S ∧ 1 ≤ S ∧ S ≤ 1 + k * 101000000 ∧ S ≤ most ∧ Below w.heap.size w wr ∧ D = loopF (fun x mm => decF vars list d (withF r (m, x)) mm) most (z.toNat - k) k S)
            case atStart => exact ⟨0, 1, Nat.zero_le _, by omega, rfl, rfl, by omega, by omega, by omega, hB, HFIN.out⟩
            case round =>
              obtain ⟨y, S, hy, hgy, rfl, rfl, hS0, hS1, hS2, hBy, hFY⟩ := hrel
              by_cases hlty : y < z.toNat
              · rw [loopF_step _ _ _ _ _ hlty] at hFY
                have hlty' : (y : Int) < z := by omega
                obtain ⟨hb1, hb2⟩ := HBD.out y (most - S) hlty
                have hih1 := fun (W : World) (v : Value) (hb : Below w.heap.size w W) (hv : FactsAt W v (withF r (m, (y : Int)))) => HIH.out W v y (most - S) hlty hb hv (by omega)
                obtain ⟨⟨ok, n1⟩, hY⟩ : ∃ Y, decF vars list d (withF r (m, (y : Int))) (most - S) = Y := ⟨_, rfl⟩
                rw [hY] at hFY hb1 hb2 hih1
                simp only at hFY hb1 hb2 hih1
                have hwi1 := HWI.out wr y hBy
                have hwl1 := HWL.out y
                have HGY := Lib.hid hgy
                have HIH1 := Lib.hid hih1
                have HY := Lib.hid hY
                have HWI1 := Lib.hid hwi1
                have HWL1 := Lib.hid hwl1
                clear hgy hih1 hY hwi1 hwl1
                cases ok
                · simp only [Bool.not_false, Bool.true_or, if_true] at hFY
                  have HFY := Lib.hid hFY
                  clear hFY
                  go_wp2_with fail
                  refine HWI1.out.mono ?_
                  rintro e w5 ⟨v5, rfl, hown5, hb5⟩
                  have HB5 := Lib.hid (belowT hBy hb5)
                  have HF5 := Lib.hid (OwnF.facts hown5 (by rw [HWL1.out]; omega))
                  obtain ⟨A5, c5, rfl⟩ := hown5.form
                  clear hown5 hb5
                  go_wp2_with (go_at_call 51; refine (HIH1.out _ _ HB5.out HF5.out).mono ?_; rintro e w6 ⟨rfl, hb6⟩; have HB6 := Lib.hid (belowT HB5.out hb6); clear hb6)
                  go_ret2
                  exact ⟨by rw [HFY.out]; rfl, HB6.out⟩
                · by_cases hover : most < S + n1
                  · simp only [Bool.not_true, Bool.false_or, decide_eq_true hover, if_true] at hFY
                    have HFY := Lib.hid hFY
                    clear hFY
                    go_wp2_with fail
                    refine HWI1.out.mono ?_
                    rintro e w5 ⟨v5, rfl, hown5, hb5⟩
                    have HB5 := Lib.hid (belowT hBy hb5)
                    have HF5 := Lib.hid (OwnF.facts hown5 (by rw [HWL1.out]; omega))
                    obtain ⟨A5, c5, rfl⟩ := hown5.form
                    clear hown5 hb5
                    go_wp2_with (go_at_call 51; refine (HIH1.out _ _ HB5.out HF5.out).mono ?_; rintro e w6 ⟨rfl, hb6⟩; have HB6 := Lib.hid (belowT HB5.out hb6); clear hb6)
                    go_ret2
                    exact ⟨by rw [HFY.out]; rfl, HB6.out⟩
                  · simp only [Bool.not_true, Bool.false_or, decide_eq_false hover, Bool.false_eq_true, if_false] at hFY
                    have HFY := Lib.hid hFY
                    clear hFY
                    go_wp2_with fail
                    refine HWI1.out.mono ?_
                    rintro e w5 ⟨v5, rfl, hown5, hb5⟩
                    have HB5 := Lib.hid (belowT hBy hb5)
                    have HF5 := Lib.hid (OwnF.facts hown5 (by rw [HWL1.out]; omega))
                    obtain ⟨A5, c5, rfl⟩ := hown5.form
                    clear hown5 hb5
                    go_wp2_with (go_at_call 51; refine (HIH1.out _ _ HB5.out HF5.out).mono ?_; rintro e w6 ⟨rfl, hb6⟩; have HB6 := Lib.hid (belowT HB5.out hb6); clear hb6)
                    go_roundg (z.toNat - (y + 1))
                    case measure => have := HGY.out; omega
                    case rel => exact ⟨y + 1, S + n1, by omega, rfl, by go_num, by first | rfl | go_num, by omega, by omega, by omega, HB6.out, HFY.out⟩
              · have hge' : ¬ ((y : Int) < z) := by omega
                have hfin : D = (true, S) := by rw [hFY, show z.toNat - y = 0 by omega]; rfl
                have HFY := Lib.hid hFY
                have HGY := Lib.hid hgy
                have HFIN2 := Lib.hid hfin
                clear hFY hgy hfin
                go_wp2_with fail
                go_ret2
                exact ⟨by rw [HFIN2.out]; rfl, hBy⟩
end Go.Proofs.Ytpogmkplmcedlaa
