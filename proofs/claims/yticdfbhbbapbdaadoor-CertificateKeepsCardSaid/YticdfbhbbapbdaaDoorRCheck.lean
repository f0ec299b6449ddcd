/- stratagemref30.Check returns the number of the error of certificate.Check. -/
import Derived.Test.YticdfbhbbapbdaaDoorCheck
import Derived.Test.YticdfbhbbapbdaaDoorIs
namespace Go.Proofs.YticdfbhbbapbdaaDoor
open Go.RowKit

def bigF (x : Fact) : Bool := decide (64 ≤ x.1) || decide (64 ≤ x.2)
theorem formedL_is (l : List Fact) : ∀ (k : Nat) (p : Int), formedL k p l = (isL k p l && !l.any bigF) := by
  induction l with
  | nil => intro k p; rfl
  | cons x r ih =>
    obtain ⟨x, y⟩ := x
    intro k p
    rw [formedL, isL, ih]
    have hb : badB x y p k = (badI x y p k || bigF (x, y)) := by
      rw [Bool.eq_iff_iff]; simp [badB, badI, bigF]; omega
    rw [hb]
    cases hI : badI x y p k <;> cases hG : bigF (x, y) <;> simp [hG]
theorem formedF_is (l : List Fact) : formedF l = (isF l && !l.any bigF) := formedL_is l 0 0

set_option maxHeartbeats 1000000 in
theorem rcheck_calls (bd : Int) (v : Value) (l : List Nogood) (w : World) (hv : NogoodsAt w v l) :
    Calls Tryd.prog 14 #[.agg #[.int .i64 bd, v]] w fun e w' => e = .returned (.int .i64 (checkF bd l)) ∧ Below w.heap.size w w' := by
  obtain ⟨A, n, c, rfl, hn, hm⟩ := hv.form
  have HV := Lib.hid hv
  have HN := Lib.hid hn
  clear hv hn
  go_enter Tryd.func14, Tryd.ntmps14
  by_cases h1 : bd < -1 ∨ 1099511627776 < bd
  · have hfin : checkF bd l = 1 := by rw [checkF, if_pos h1]
    have HFIN := Lib.hid hfin
    clear hfin
    go_wp2
    all_goals (go_ret; exact ⟨by rw [HFIN.out]; rfl, belowA (Below.refl _ _) _⟩)
  · have hb1 : -1 ≤ bd := by omega
    have hb2 : bd ≤ 1099511627776 := by omega
    by_cases h2 : 4096 < n
    · have hfin : checkF bd l = 5 := by rw [checkF, if_neg h1, if_pos (by have := HN.out; omega)]
      have HFIN := Lib.hid hfin
      clear hfin
      clear h1
      go_wp2
      go_ret
      exact ⟨by rw [HFIN.out]; rfl, belowA (Below.refl _ _) _⟩
    · have hfin : checkF bd l = if l.all (fun x => formedF x.1) = false then 2 else if l.any (fun x => badDist bd x.2) then 1 else 0 := by
        rw [checkF, if_neg h1, if_neg (by have := HN.out; omega)]
      have HFIN := Lib.hid hfin
      clear hfin
      clear h1
      go_wp2
      go_loopg [24] n (fun g i wr => ∃ k : Nat, k ≤ n ∧ g = n - k ∧ i = .int .i64 k ∧ Below w.heap.size w wr ∧ wr.cell? ⟨w.heap.size, 0, none⟩ = some (.int .i64 bd) ∧ wr.cell? ⟨w.heap.size, 1, none⟩ = some (.slice A n c) ∧ l.all (fun x => formedF x.1) = (l.drop k).all (fun x => formedF x.1))
      case atStart => exact ⟨0, Nat.zero_le _, by omega, rfl, belowA (Below.refl _ _) _, by simp [World.cell?_alloc_new], by simp [World.cell?_alloc_new], rfl⟩
      case round =>
        obtain ⟨k, hk, hg, rfl, hB, hc0, hc1, hF⟩ := hrel
        have HG := Lib.hid hg
        have HF := Lib.hid hF
        clear hg hF
        by_cases hlt : k < n
        · obtain ⟨b, off, fA, fn, fc, fs, d, rfl, c0, hfn, hfm, hfs, c1, hx, hd⟩ := (HV.out.keep hB).at hlt
          have hbr : b < wr.heap.size := lt_of_cell c0
          have hbw : w.heap.size < wr.heap.size := lt_of_cell hc0
          have HX := Lib.hid hx
          have HD := Lib.hid hd
          have HFS := Lib.hid hfs
          have HFN := Lib.hid hfn
          clear hx hd hfs hfn
          cases his : isF fs
          · have hform : formedF fs = false := by rw [formedF_is, his]; rfl
            have HIS := Lib.hid his
            have HFO := Lib.hid hform
            clear his hform
            go_wp2_with (go_at_call 31; refine (is_calls _ fs _ (HFS.out.keep (belowA (Below.refl _ _) _))).mono ?_; rw [HIS.out]; rintro e w' ⟨rfl, hb'⟩)
            go_ret
            exact ⟨by rw [HFIN.out, HF.out, HD.out]; simp [HFO.out], belowT (belowA hB _) hb'⟩
          · have HIS := Lib.hid his
            clear his
            go_wp2_with (go_at_call 31; refine (is_calls _ fs _ (HFS.out.keep (belowA (Below.refl _ _) _))).mono ?_; rw [HIS.out]; rintro e w' ⟨rfl, hb'⟩; have q0 : w'.cell? ⟨wr.heap.size, 0, none⟩ = some (.slice fA fn fc) := kept hb' (by simp [World.cell?_alloc_new]))
            have hBw' : Below w.heap.size w w' := belowT (belowA hB _) hb'
            have hc0' := kept hb' (kept (belowA (Below.refl wr.heap.size wr) (.cells #[.slice fA fn fc, .int .i64 d] 45)) hc0)
            have hc1' := kept hb' (kept (belowA (Below.refl wr.heap.size wr) (.cells #[.slice fA fn fc, .int .i64 d] 45)) hc1)
            have hfs' := HFS.out.keep ((belowA (Below.refl wr.heap.size wr) (.cells #[.slice fA fn fc, .int .i64 d] 45)).trans (hb'.mono (by simp)))
            have HFS2 := Lib.hid hfs'
            have HC0 := Lib.hid hc0'
            have HC1 := Lib.hid hc1'
            clear hfs' hc0' hc1'
            clear hc0 hc1 hb' c0 c1 q0
            obtain ⟨wo, rfl⟩ : ∃ wo : World, wo = wr := ⟨_, rfl⟩
            go_loopg [35] fn (fun g i wx => ∃ j : Nat, j ≤ fn ∧ g = fn - j ∧ i = .int .i64 j ∧ Below w.heap.size w wx ∧ wx.cell? ⟨w.heap.size, 0, none⟩ = some (.int .i64 bd) ∧ wx.cell? ⟨w.heap.size, 1, none⟩ = some (.slice (some ⟨b, off, none⟩) n c) ∧ FactsAt wx (.slice fA fn fc) fs ∧ fs.any bigF = (fs.drop j).any bigF)
            case atStart => exact ⟨0, Nat.zero_le _, by omega, rfl, hBw', HC0.out, HC1.out, HFS2.out, rfl⟩
            case round =>
              obtain ⟨j, hj, hg', rfl, hBx, hcx0, hcx1, hfx, hFx⟩ := hrel
              have HG2 := Lib.hid hg'
              have HFX := Lib.hid hFx
              have HFSX := Lib.hid hfx
              clear hg' hFx hfx
              by_cases hjt : j < fn
              · obtain ⟨b2, off2, x, y, rfl, c0, c1, hx2, hd2⟩ := HFSX.out.at hjt
                have hbr2 : b2 < wr.heap.size := lt_of_cell c0
                have hbw2 : w.heap.size < wr.heap.size := lt_of_cell hcx0
                have HX2 := Lib.hid hx2
                have HD2 := Lib.hid hd2
                clear hx2 hd2
                go_upto_region 13 with fail
                go_cut [46] (fun s wx => s = .bool (bigF (x, y)) ∧ Below wr.heap.size wr wx)
                case first =>
                  go_wp2_with fail
                  all_goals (go_meet; exact ⟨by rw [Value.bool.injEq, Bool.eq_iff_iff]; simp [bigF] <;> omega, belowA (Below.refl _ _) _⟩)
                case rest =>
                  obtain ⟨rfl, hB'⟩ := hcut
                  cases hbad : bigF (x, y)
                  · go_wp2
                    go_roundg (fn - (j + 1))
                    case measure => have := HG2.out; omega
                    case rel => exact ⟨j + 1, by omega, rfl, by go_num, belowT hBx hB', kept hB' hcx0, kept hB' hcx1, HFSX.out.keep hB', by rw [HFX.out, HD2.out]; simp [hbad]⟩
                  · go_wp2
                    go_ret
                    have hform : formedF fs = false := by rw [formedF_is, HFX.out, HD2.out]; simp [hbad]
                    exact ⟨by rw [HFIN.out, HF.out, HD.out]; simp [hform], belowT hBx hB'⟩
              · have hform : formedF fs = true := by rw [formedF_is, HIS.out, HFX.out, List.drop_eq_nil_of_le (by have := HFN.out; omega)]; rfl
                have HFO := Lib.hid hform
                clear hform
                go_wp2
                go_roundg (n - (k + 1))
                case measure => have := HG.out; omega
                case rel => exact ⟨k + 1, by omega, rfl, by go_num, hBx, hcx0, hcx1, by rw [HF.out, HD.out]; simp [HFO.out]⟩
        · have hall : l.all (fun x => formedF x.1) = true := by rw [HF.out, List.drop_eq_nil_of_le (by have := HN.out; omega)]; rfl
          have hfin2 : checkF bd l = if l.any (fun x => badDist bd x.2) then 1 else 0 := by rw [HFIN.out, hall]; simp
          have HFIN2 := Lib.hid hfin2
          clear hfin2
          clear hall
          have hbw : w.heap.size < wr.heap.size := lt_of_cell hc0
          go_wp2
          obtain ⟨wo, rfl⟩ : ∃ wo : World, wo = wr := ⟨_, rfl⟩
          go_loopg [52] n (fun g i wr => ∃ k : Nat, k ≤ n ∧ g = n - k ∧ i = .int .i64 k ∧ Below w.heap.size w wr ∧ wr.cell? ⟨w.heap.size, 0, none⟩ = some (.int .i64 bd) ∧ l.any (fun x => badDist bd x.2) = (l.drop k).any (fun x => badDist bd x.2))
          case atStart => exact ⟨0, Nat.zero_le _, by omega, rfl, hB, hc0, rfl⟩
          case round =>
            clear HF HG hlt hc0 hc1 hB hbw
            obtain ⟨j, hj, hg, rfl, hB, hc0, hF⟩ := hrel
            have HG := Lib.hid hg
            have HF := Lib.hid hF
            clear hg hF
            by_cases hlt : j < n
            · obtain ⟨b, off, fA, fn, fc, fs, d, rfl, c0, hfn, hfm, hfs, c1, hx, hd⟩ := (HV.out.keep hB).at hlt
              have hbr : b < wr.heap.size := lt_of_cell c0
              have hbw : w.heap.size < wr.heap.size := lt_of_cell hc0
              have HX := Lib.hid hx
              have HD := Lib.hid hd
              have HFS := Lib.hid hfs
              have HFN := Lib.hid hfn
              clear hx hd hfs hfn
              go_upto_region 20 with fail
              go_cut [80] (fun s wx => s = .bool (badDist bd d) ∧ Below w.heap.size w wx ∧ wx.cell? ⟨w.heap.size, 0, none⟩ = some (.int .i64 bd))
              case first =>
                go_wp2_with fail
                all_goals (go_meet; exact ⟨by rw [Value.bool.injEq, Bool.eq_iff_iff]; simp [badDist] <;> omega, belowA hB _, kept (belowA (Below.refl _ _) _) hc0⟩)
              case rest =>
                obtain ⟨rfl, hB', hc'⟩ := hcut
                cases hbad : badDist bd d
                · go_wp2
                  go_roundg (n - (j + 1))
                  case measure => have := HG.out; omega
                  case rel => exact ⟨j + 1, by omega, rfl, by go_num, hB', hc', by rw [HF.out, HD.out]; simp [hbad]⟩
                · go_wp2
                  go_ret
                  exact ⟨by rw [HFIN2.out, HF.out, HD.out]; simp [hbad], hB'⟩
            · go_wp2
              go_ret
              exact ⟨by rw [HFIN2.out, HF.out, List.drop_eq_nil_of_le (by have := HN.out; omega)]; rfl, hB⟩
end Go.Proofs.YticdfbhbbapbdaaDoor
