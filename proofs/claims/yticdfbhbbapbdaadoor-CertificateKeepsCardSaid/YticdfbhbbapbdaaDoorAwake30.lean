/- stratagemlaw30.awake returns true; stratagemlaw30.large. -/
import Derived.Test.YticdfbhbbapbdaaDoorFormat
namespace Go.Proofs.YticdfbhbbapbdaaDoor
open Go.RowKit

theorem awake_text : formatF 3 [([(1, 2)], 0)] = ([108, 111, 119, 101, 114, 32, 51, 10, 110, 111, 103, 111, 111, 100, 32, 48, 58, 32, 49, 61, 50, 10], 0) := by
  have hc : checkF 3 [([(1, 2)], 0)] = 0 := by decide
  have i0 : Lib.itoa 0 = [48] := by rw [show (0 : Int) = ((0 : Nat) : Int) from rfl, Lib.itoa_nonneg, Lib.decDigits_one (by omega)]; rfl
  have i1 : Lib.itoa 1 = [49] := by rw [show (1 : Int) = ((1 : Nat) : Int) from rfl, Lib.itoa_nonneg, Lib.decDigits_one (by omega)]; rfl
  have i2 : Lib.itoa 2 = [50] := by rw [show (2 : Int) = ((2 : Nat) : Int) from rfl, Lib.itoa_nonneg, Lib.decDigits_one (by omega)]; rfl
  have i3 : Lib.itoa 3 = [51] := by rw [show (3 : Int) = ((3 : Nat) : Int) from rfl, Lib.itoa_nonneg, Lib.decDigits_one (by omega)]; rfl
  rw [formatF, if_neg (by rw [hc]; simp)]
  simp [formatL, headB, nogoodB, lineB, factB, i0, i1, i2, i3]

theorem awake_reads (w : World) : NogoodsAt ((w.alloc (.cells #[.int .i64 1, .int .i64 2] 54)).alloc (.cells #[.slice (some ⟨w.heap.size, 0, none⟩) 1 1, .int .i64 0] 45)) (.slice (some ⟨w.heap.size + 1, 0, none⟩) 1 1) [([(1, 2)], 0)] := by
  refine ⟨_, _, rfl, by simp, fun k x hx => ?_⟩
  have hk : k = 0 := by
    rcases Nat.lt_or_ge k 1 with h | h
    · omega
    · rw [List.getElem?_eq_none (by simpa using h)] at hx; cases hx
  subst hk
  injection hx with hx
  subst hx
  refine ⟨_, _, .slice (some ⟨w.heap.size, 0, none⟩) 1 1, rfl, ?_, ⟨_, _, rfl, by simp, fun k x hx => ?_⟩, ?_⟩
  · simp
  · have hk : k = 0 := by
      rcases Nat.lt_or_ge k 1 with h | h
      · omega
      · rw [List.getElem?_eq_none (by simpa using h)] at hx; cases hx
    subst hk
    injection hx with hx
    subst hx
    exact ⟨_, _, rfl, kept (belowA (Below.refl _ _) _) (by simp [World.cell?_alloc_new]), kept (belowA (Below.refl _ _) _) (by simp [World.cell?_alloc_new])⟩
  · simp

set_option maxHeartbeats 1000000 in
theorem awake_calls (w : World) (htab : TabOk w) : Calls Tryd.prog 11 #[] w fun e w' => e = .returned (.bool true) ∧ Below w.heap.size w w' := by
  have hB : Below w.heap.size w ((w.alloc (.cells #[.int .i64 1, .int .i64 2] 54)).alloc (.cells #[.slice (some ⟨w.heap.size, 0, none⟩) 1 1, .int .i64 0] 45)) := belowA (belowA (Below.refl _ _) _) _
  have hf := format_calls 3 _ _ _ (awake_reads w) (htab.keep hB)
  rw [awake_text, errV_zero] at hf
  have HF := Lib.hid hf
  have HB := Lib.hid hB
  clear hf hB
  clear htab
  go_enter Tryd.func11, Tryd.ntmps11
  go_wp2_with (go_at_call 16; refine HF.out.mono ?_; rintro e w1 ⟨rfl, hb1⟩)
  go_ret
  exact ⟨rfl, belowT HB.out hb1⟩

/-- the sum that 'large' computes -/
def largeL : Int → List Nogood → Int
  | n, [] => n
  | n, x :: r => largeL (wrap64 (n + x.1.length)) r
def largeF (l : List Nogood) : Bool := decide (400 < largeL l.length l)

set_option maxHeartbeats 1000000 in
theorem large_calls (bd : Int) (v : Value) (l : List Nogood) (w : World) (hv : NogoodsAt w v l) :
    Calls Tryd.prog 15 #[.agg #[.int .i64 bd, v]] w fun e w' => e = .returned (.bool (largeF l)) ∧ Below w.heap.size w w' := by
  obtain ⟨A, n, c, rfl, hn, hm⟩ := hv.form
  have HV := Lib.hid hv
  have HN := Lib.hid hn
  clear hv hn
  go_enter Tryd.func15, Tryd.ntmps15
  go_wp2
  go_loopg [3, 12] n (fun g s i wr => ∃ (k : Nat) (m : Int), k ≤ n ∧ g = n - k ∧ i = .int .i64 k ∧ s = .int .i64 m ∧ Below w.heap.size w wr ∧ largeL l.length l = largeL m (l.drop k))
  case atStart => exact ⟨0, n, Nat.zero_le _, by omega, rfl, rfl, belowA (Below.refl _ _) _, by rw [HN.out]; rfl⟩
  case round =>
    obtain ⟨k, m, hk, hg, rfl, rfl, hB, hF⟩ := hrel
    have HG := Lib.hid hg
    have HF := Lib.hid hF
    clear hg hF
    by_cases hlt : k < n
    · obtain ⟨b, off, fA, fn, fc, fs, d, rfl, c0, hfn, hfm, hfs, c1, hx, hd⟩ := (HV.out.keep hB).at hlt
      have hbr : b < wr.heap.size := lt_of_cell c0
      have HX := Lib.hid hx
      have HD := Lib.hid hd
      have HFS := Lib.hid hfs
      have HFN := Lib.hid hfn
      clear hx hd hfs hfn
      go_wp2
      go_roundg (n - (k + 1))
      case measure => have := HG.out; omega
      case rel => exact ⟨k + 1, _, by omega, rfl, by go_num, rfl, belowA hB _, by rw [HF.out, HD.out, largeL, HFN.out]⟩
    · have hfin : largeL l.length l = m := by rw [HF.out, List.drop_eq_nil_of_le (by have := HN.out; omega), largeL]
      have HFIN := Lib.hid hfin
      clear hfin
      go_wp2
      go_ret
      exact ⟨by rw [largeF, HFIN.out]; rfl, hB⟩
end Go.Proofs.YticdfbhbbapbdaaDoor
