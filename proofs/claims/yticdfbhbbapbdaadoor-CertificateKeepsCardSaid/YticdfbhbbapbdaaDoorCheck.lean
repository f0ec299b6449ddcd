/- certificate.Check: the first error of a certificate. -/
import Derived.Test.YticdfbhbbapbdaaDoorForm
import Derived.Test.YticdfbhbbapbdaaDoorErr
namespace Go.Proofs.YticdfbhbbapbdaaDoor
open Go.RowKit

def badDist (b d : Int) : Bool := decide (d < 0) || (decide (0 ≤ b) && decide (b ≤ d)) || (decide (b < 0) && d != 0)
def checkF (b : Int) (l : List Nogood) : Int :=
  if b < -1 ∨ 1099511627776 < b then 1 else if 4096 < l.length then 5 else if l.all (fun x => formedF x.1) = false then 2 else if l.any (fun x => badDist b x.2) then 1 else 0

set_option maxHeartbeats 1000000 in
theorem check_calls (bd : Int) (v : Value) (l : List Nogood) (w : World) (hv : NogoodsAt w v l) :
    Calls Tryd.prog 13 #[.agg #[.int .i64 bd, v]] w fun e w' => e = .returned (errV (checkF bd l)) ∧ Below w.heap.size w w' := by
  obtain ⟨A, n, c, rfl, hn, hm⟩ := hv.form
  have HV := Lib.hid hv
  have HN := Lib.hid hn
  clear hv hn
  go_enter Tryd.func13, Tryd.ntmps13
  by_cases h1 : bd < -1 ∨ 1099511627776 < bd
  · have hfin : checkF bd l = 1 := by rw [checkF, if_pos h1]
    have HFIN := Lib.hid hfin
    clear hfin
    go_wp2
    all_goals (go_ret; exact ⟨by rw [HFIN.out]; rfl, belowA (Below.refl _ _) _⟩)
  · have hb1 : -1 ≤ bd := by omega
    have hb2 : bd ≤ 1099511627776 := by omega
    by_cases h2 : 4096 < n
    · have hfin : checkF bd l = 5 := by rw [checkF, if_neg h1, if_pos (by have := HN.out; omega)]
      have HFIN := Lib.hid hfin
      clear hfin
      clear h1
      go_wp2
      go_ret
      exact ⟨by rw [HFIN.out]; rfl, belowA (Below.refl _ _) _⟩
    · have hfin : checkF bd l = if l.all (fun x => formedF x.1) = false then 2 else if l.any (fun x => badDist bd x.2) then 1 else 0 := by
        rw [checkF, if_neg h1, if_neg (by have := HN.out; omega)]
      have HFIN := Lib.hid hfin
      clear hfin
      clear h1
      go_wp2
      go_loopg [24] n (fun g i wr => ∃ k : Nat, k ≤ n ∧ g = n - k ∧ i = .int .i64 k ∧ Below w.heap.size w wr ∧ wr.cell? ⟨w.heap.size, 0, none⟩ = some (.int .i64 bd) ∧ wr.cell? ⟨w.heap.size, 1, none⟩ = some (.slice A n c) ∧ l.all (fun x => formedF x.1) = (l.drop k).all (fun x => formedF x.1))
      case atStart => exact ⟨0, Nat.zero_le _, by omega, rfl, belowA (Below.refl _ _) _, by simp [World.cell?_alloc_new], by simp [World.cell?_alloc_new], rfl⟩
      case round =>
        obtain ⟨k, hk, hg, rfl, hB, hc0, hc1, hF⟩ := hrel
        have HG := Lib.hid hg
        have HF := Lib.hid hF
        clear hg hF
        by_cases hlt : k < n
        · obtain ⟨b, off, fA, fn, fc, fs, d, rfl, c0, hfn, hfm, hfs, c1, hx, hd⟩ := (HV.out.keep hB).at hlt
          have hbr : b < wr.heap.size := lt_of_cell c0
          have hbw : w.heap.size < wr.heap.size := lt_of_cell hc0
          have HX := Lib.hid hx
          have HD := Lib.hid hd
          have HFS := Lib.hid hfs
          have HFN := Lib.hid hfn
          clear hx hd hfs hfn
          cases hform : formedF fs
          · have HFO := Lib.hid hform
            clear hform
            go_wp2_with (go_at_call 30; refine (formed_calls _ fs _ (HFS.out.keep (belowA (Below.refl _ _) _))).mono ?_; rw [HFO.out]; rintro e w' ⟨rfl, hb'⟩)
            go_ret
            exact ⟨by rw [HFIN.out, HF.out, HD.out]; simp [HFO.out]; rfl, belowT (belowA hB _) hb'⟩
          · have HFO := Lib.hid hform
            clear hform
            go_wp2_with (go_at_call 30; refine (formed_calls _ fs _ (HFS.out.keep (belowA (Below.refl _ _) _))).mono ?_; rw [HFO.out]; rintro e w' ⟨rfl, hb'⟩)
            go_roundg (n - (k + 1))
            case measure => have := HG.out; omega
            case rel => exact ⟨k + 1, by omega, rfl, by go_num, belowT (belowA hB _) hb', kept hb' (kept (belowA (Below.refl _ _) _) hc0), kept hb' (kept (belowA (Below.refl _ _) _) hc1), by rw [HF.out, HD.out]; simp [HFO.out]⟩
        · have hall : l.all (fun x => formedF x.1) = true := by rw [HF.out, List.drop_eq_nil_of_le (by have := HN.out; omega)]; rfl
          have hfin2 : checkF bd l = if l.any (fun x => badDist bd x.2) then 1 else 0 := by rw [HFIN.out, hall]; simp
          have HFIN2 := Lib.hid hfin2
          clear hfin2
          clear hall
          have hbw : w.heap.size < wr.heap.size := lt_of_cell hc0
          go_wp2
          obtain ⟨wo, rfl⟩ : ∃ wo : World, wo = wr := ⟨_, rfl⟩
          go_loopg [37] n (fun g i wr => ∃ k : Nat, k ≤ n ∧ g = n - k ∧ i = .int .i64 k ∧ Below w.heap.size w wr ∧ wr.cell? ⟨w.heap.size, 0, none⟩ = some (.int .i64 bd) ∧ l.any (fun x => badDist bd x.2) = (l.drop k).any (fun x => badDist bd x.2))
          case atStart => exact ⟨0, Nat.zero_le _, by omega, rfl, hB, hc0, rfl⟩
          case round =>
            clear HF HG hlt hc0 hc1 hB hbw
            obtain ⟨j, hj, hg, rfl, hB, hc0, hF⟩ := hrel
            have HG := Lib.hid hg
            have HF := Lib.hid hF
            clear hg hF
            by_cases hlt : j < n
            · obtain ⟨b, off, fA, fn, fc, fs, d, rfl, c0, hfn, hfm, hfs, c1, hx, hd⟩ := (HV.out.keep hB).at hlt
              have hbr : b < wr.heap.size := lt_of_cell c0
              have hbw : w.heap.size < wr.heap.size := lt_of_cell hc0
              have HX := Lib.hid hx
              have HD := Lib.hid hd
              have HFS := Lib.hid hfs
              have HFN := Lib.hid hfn
              clear hx hd hfs hfn
              go_upto_region 14 with fail
              go_cut [65] (fun s wx => s = .bool (badDist bd d) ∧ Below w.heap.size w wx ∧ wx.cell? ⟨w.heap.size, 0, none⟩ = some (.int .i64 bd))
              case first =>
                go_wp2_with fail
                all_goals (go_meet; exact ⟨by rw [Value.bool.injEq, Bool.eq_iff_iff]; simp [badDist] <;> omega, belowA hB _, kept (belowA (Below.refl _ _) _) hc0⟩)
              case rest =>
                obtain ⟨rfl, hB', hc'⟩ := hcut
                cases hbad : badDist bd d
                · go_wp2
                  go_roundg (n - (j + 1))
                  case measure => have := HG.out; omega
                  case rel => exact ⟨j + 1, by omega, rfl, by go_num, hB', hc', by rw [HF.out, HD.out]; simp [hbad]⟩
                · go_wp2
                  go_ret
                  exact ⟨by rw [HFIN2.out, HF.out, HD.out]; simp [hbad]; rfl, hB'⟩
            · go_wp2
              go_ret
              exact ⟨by rw [HFIN2.out, HF.out, List.drop_eq_nil_of_le (by have := HN.out; omega)]; rfl, hB⟩
end Go.Proofs.YticdfbhbbapbdaaDoor
