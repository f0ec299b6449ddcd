/- stratagemlaw06.wide, stratagembase.Many. -/
import Derived.Test.YtpogmkplmcedlaaCovered
namespace Go.Proofs.Ytpogmkplmcedlaa
open Go.RowKit

def wideL : Int → List Int → Bool
  | _, [] => false
  | n, k :: r => if 512 < k then true else if 512 < n * max k 1 then true else wideL (n * max k 1) r
def wideF (vars : List Int) : Bool := wideL 1 vars
theorem wideL_prod (l : List Int) : ∀ (j : Nat) (n : Int), 1 ≤ n → n ≤ 512 → wideL n l = false → n * prodL [] j (ones l) ≤ 512 := by
  induction l with
  | nil => intro j n h1 h2 _; simp [ones, prodL]; omega
  | cons k r ih =>
    intro j n h1 h2 h
    rw [wideL] at h
    split at h
    · cases h
    · split at h
      · cases h
      · have h3 := Int.mul_le_mul h1 (show 1 ≤ max k 1 by omega) (by omega) (by omega)
        have := ih (j + 1) (n * max k 1) (by omega) (by omega) h
        have e : prodL [] j (ones (k :: r)) = max k 1 * prodL [] (j + 1) (ones r) := by
          show prodL [] j (max k 1 :: ones r) = _
          rw [prodL]
          rfl
        rw [e, ← Int.mul_assoc]
        exact this
theorem wide_prod {vars : List Int} (h : wideF vars = false) : prodL [] 0 (ones vars) ≤ 1000000 := by
  have := wideL_prod vars 0 1 (by omega) (by omega) h
  omega
set_option maxHeartbeats 1000000 in
theorem wide_calls (v : Value) (l : List Int) (w : World) (hv : IntsAt w v l) :
    Calls Try.prog 26 #[v] w fun e w' => e = .returned (.bool (wideF l)) ∧ Below w.heap.size w w' := by
  obtain ⟨A, n, c, rfl, hn, hm⟩ := hv.form
  obtain ⟨D, hD⟩ : ∃ D, wideF l = D := ⟨_, rfl⟩
  rw [hD]
  have HV := Lib.hid hv
  have HN := Lib.hid hn
  have HD := Lib.hid hD
  clear hv hn hD
  go_enter Try.func26, Try.ntmps26
  go_wp2
  go_loopg [3, 8] n (fun g s i wr => ∃ (k : Nat) (m : Int), k ≤ n ∧ g = n - k ∧ i = .int .i64 k ∧ s = .int .i64 m ∧ 1 ≤ m ∧ m ≤ 512 ∧ Below w.heap.size w wr ∧ D = wideL m (l.drop k))
  case atStart => exact ⟨0, 1, Nat.zero_le _, by omega, rfl, rfl, by omega, by omega, Below.refl _ _, HD.out.symm⟩
  case round =>
    obtain ⟨k, m, hk, hg, rfl, rfl, hm1, hm2, hB, hF⟩ := hrel
    have HG := Lib.hid hg
    have HF := Lib.hid hF
    clear hg hF
    by_cases hlt : k < n
    · obtain ⟨b, off, x, rfl, c0, hx, hd⟩ := (HV.out.keep hB).at hlt
      have hst : D = if 512 < x then true else if 512 < m * max x 1 then true else wideL (m * max x 1) (l.drop (k + 1)) := by rw [HF.out, hd, wideL]
      by_cases hx1 : 512 < x
      · rw [if_pos hx1] at hst
        have HX := Lib.hid hx
        have HD2 := Lib.hid hd
        have HST := Lib.hid hst
        clear hx hd hst
        go_wp2
        go_ret
        exact ⟨by rw [HST.out]; rfl, hB⟩
      · rw [if_neg hx1] at hst
        rcases Int.lt_trichotomy x 1 with hxa | hxa | hxa
        · rw [show max x 1 = 1 by omega, Int.mul_one, if_neg (by omega)] at hst
          have HX := Lib.hid hx
          have HD2 := Lib.hid hd
          have HST := Lib.hid hst
          clear hx hd hst
          go_wp2
          go_roundg (n - (k + 1))
          case measure => have := HG.out; omega
          case rel => exact ⟨k + 1, m, by omega, rfl, by go_num, by first | rfl | go_num, hm1, hm2, hB, HST.out⟩
        · subst hxa
          rw [show max (1 : Int) 1 = 1 by omega, Int.mul_one, if_neg (by omega)] at hst
          have HX := Lib.hid hx
          have HD2 := Lib.hid hd
          have HST := Lib.hid hst
          clear hx hd hst
          go_wp2
          go_roundg (n - (k + 1))
          case measure => have := HG.out; omega
          case rel => exact ⟨k + 1, m, by omega, rfl, by go_num, by first | rfl | go_num, hm1, hm2, hB, HST.out⟩
        · rw [show max x 1 = x by omega] at hst
          have hmx := mul_small hm1 (show m ≤ 65537 by omega) (show 1 ≤ x by omega) (show x ≤ 65537 by omega)
          obtain ⟨hmx0, hmx1⟩ := hmx
          by_cases hbig : 512 < m * x
          · rw [if_pos hbig] at hst
            have HX := Lib.hid hx
            have HD2 := Lib.hid hd
            have HST := Lib.hid hst
            clear hx hd hst
            go_wp2
            go_ret
            exact ⟨by rw [HST.out]; rfl, hB⟩
          · rw [if_neg hbig] at hst
            have HX := Lib.hid hx
            have HD2 := Lib.hid hd
            have HST := Lib.hid hst
            clear hx hd hst
            go_wp2
            go_roundg (n - (k + 1))
            case measure => have := HG.out; omega
            case rel => exact ⟨k + 1, m * x, by omega, rfl, by go_num, by first | rfl | go_num, hmx0, by omega, hB, HST.out⟩
    · have hfin : D = false := by rw [HF.out, List.drop_eq_nil_of_le (by have := HN.out; omega), wideL]
      have HFIN := Lib.hid hfin
      clear hfin
      go_wp2
      go_ret
      exact ⟨by rw [HFIN.out]; rfl, hB⟩

def manyV (most : Int) : Int → List Int → Int
  | n, [] => n
  | n, k :: r => if most < n * min (max k 0) (most + 1) then most + 1 else manyV most (n * min (max k 0) (most + 1)) r
set_option maxHeartbeats 1000000 in
theorem manyV_calls (v : Value) (l : List Int) (most : Int) (w : World) (hv : IntsAt w v l) (h0 : 1 ≤ most) (h1 : most ≤ 65536) :
    Calls Try.prog 27 #[v, .int .i64 most] w fun e w' => e = .returned (.int .i64 (manyV most 1 l)) ∧ Below w.heap.size w w' := by
  obtain ⟨A, n, c, rfl, hn, hm⟩ := hv.form
  obtain ⟨D, hD⟩ : ∃ D, manyV most 1 l = D := ⟨_, rfl⟩
  rw [hD]
  have HV := Lib.hid hv
  have HN := Lib.hid hn
  have HD := Lib.hid hD
  clear hv hn hD
  go_enter Try.func27, Try.ntmps27
  go_wp2
  go_loopg [5, 10] n (fun g s i wr => ∃ (k : Nat) (m : Int), k ≤ n ∧ g = n - k ∧ i = .int .i64 k ∧ s = .int .i64 m ∧ 0 ≤ m ∧ m ≤ most ∧ Below w.heap.size w wr ∧ D = manyV most m (l.drop k))
  case atStart => exact ⟨0, 1, Nat.zero_le _, by omega, rfl, rfl, by omega, by omega, Below.refl _ _, HD.out.symm⟩
  case round =>
    obtain ⟨k, m, hk, hg, rfl, rfl, hm1, hm2, hB, hF⟩ := hrel
    have HG := Lib.hid hg
    have HF := Lib.hid hF
    clear hg hF
    by_cases hlt : k < n
    · obtain ⟨b, off, x, rfl, c0, hx, hd⟩ := (HV.out.keep hB).at hlt
      have hst : D = if most < m * min (max x 0) (most + 1) then most + 1 else manyV most (m * min (max x 0) (most + 1)) (l.drop (k + 1)) := by rw [HF.out, hd, manyV]
      have HX := Lib.hid hx
      have HD2 := Lib.hid hd
      clear hx hd
      have key : ∀ y : Int, 0 ≤ y → y ≤ most + 1 → 0 ≤ m * y ∧ m * y ≤ 4295098369 := fun y hy0 hy1 => ⟨Int.mul_nonneg hm1 hy0, by have := Int.mul_le_mul (show m ≤ 65537 by omega) (show y ≤ 65537 by omega) hy0 (by omega); omega⟩
      rcases Int.lt_trichotomy x 0 with hxa | hxa | hxa
      · rw [show max x 0 = 0 by omega, show min 0 (most + 1) = 0 by omega, Int.mul_zero, if_neg (by omega)] at hst
        have HST := Lib.hid hst
        have KEY := Lib.hid key
        clear hst key
        go_wp2
        go_roundg (n - (k + 1))
        case measure => have := HG.out; omega
        case rel => exact ⟨k + 1, 0, by omega, rfl, by go_num, by first | rfl | go_num, by omega, by omega, hB, HST.out⟩
      · subst hxa
        rw [show max (0 : Int) 0 = 0 by omega, show min 0 (most + 1) = 0 by omega, Int.mul_zero, if_neg (by omega)] at hst
        have HST := Lib.hid hst
        have KEY := Lib.hid key
        clear hst key
        go_wp2
        go_roundg (n - (k + 1))
        case measure => have := HG.out; omega
        case rel => exact ⟨k + 1, 0, by omega, rfl, by go_num, by first | rfl | go_num, by omega, by omega, hB, HST.out⟩
      · rw [show max x 0 = x by omega] at hst
        rcases Int.lt_trichotomy x (most + 1) with hxb | hxb | hxb
        · rw [show min x (most + 1) = x by omega] at hst
          obtain ⟨k1, k2⟩ := key x (by omega) (by omega)
          by_cases hbig : most < m * x
          · rw [if_pos hbig] at hst
            have HST := Lib.hid hst
            have KEY := Lib.hid key
            clear hst key
            go_wp2
            go_ret
            exact ⟨by rw [HST.out]; rfl, hB⟩
          · rw [if_neg hbig] at hst
            have HST := Lib.hid hst
            have KEY := Lib.hid key
            clear hst key
            go_wp2
            go_roundg (n - (k + 1))
            case measure => have := HG.out; omega
            case rel => exact ⟨k + 1, m * x, by omega, rfl, by go_num, by first | rfl | go_num, by omega, by omega, hB, HST.out⟩
        · subst hxb
          rw [show min (most + 1) (most + 1) = most + 1 by omega] at hst
          obtain ⟨k1, k2⟩ := key (most + 1) (by omega) (by omega)
          by_cases hbig : most < m * (most + 1)
          · rw [if_pos hbig] at hst
            have HST := Lib.hid hst
            have KEY := Lib.hid key
            clear hst key
            go_wp2
            go_ret
            exact ⟨by rw [HST.out]; rfl, hB⟩
          · rw [if_neg hbig] at hst
            have HST := Lib.hid hst
            have KEY := Lib.hid key
            clear hst key
            go_wp2
            go_roundg (n - (k + 1))
            case measure => have := HG.out; omega
            case rel => exact ⟨k + 1, m * (most + 1), by omega, rfl, by go_num, by first | rfl | go_num, by omega, by omega, hB, HST.out⟩
        · rw [show min x (most + 1) = most + 1 by omega] at hst
          obtain ⟨k1, k2⟩ := key (most + 1) (by omega) (by omega)
          by_cases hbig : most < m * (most + 1)
          · rw [if_pos hbig] at hst
            have HST := Lib.hid hst
            have KEY := Lib.hid key
            clear hst key
            go_wp2
            go_ret
            exact ⟨by rw [HST.out]; rfl, hB⟩
          · rw [if_neg hbig] at hst
            have HST := Lib.hid hst
            have KEY := Lib.hid key
            clear hst key
            go_wp2
            go_roundg (n - (k + 1))
            case measure => have := HG.out; omega
            case rel => exact ⟨k + 1, m * (most + 1), by omega, rfl, by go_num, by first | rfl | go_num, by omega, by omega, hB, HST.out⟩
    · have hfin : D = m := by rw [HF.out, List.drop_eq_nil_of_le (by have := HN.out; omega), manyV]
      have HFIN := Lib.hid hfin
      clear hfin
      go_wp2
      go_ret
      exact ⟨by rw [HFIN.out]; rfl, hB⟩
end Go.Proofs.Ytpogmkplmcedlaa
