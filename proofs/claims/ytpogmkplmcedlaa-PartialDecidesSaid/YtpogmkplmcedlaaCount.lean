/- partial.Count, stratagemref06.Count. -/
import Derived.Test.YtpogmkplmcedlaaWith
import Derived.Test.YtpogmkplmcedlaaProper
namespace Go.Proofs.Ytpogmkplmcedlaa
open Go.RowKit

/-- the first number below 1 -/
def idxL : Nat → List Int → Int
  | _, [] => -1
  | k, x :: r => if x < 1 then (k : Int) else idxL (k + 1) r
theorem idxL_any (l : List Int) : ∀ k : Nat, decide (0 ≤ idxL k l) = l.any (fun x => decide (x < 1)) := by
  induction l with
  | nil => intro k; simp [idxL]
  | cons x r ih =>
    intro k
    rw [idxL]
    by_cases h : x < 1
    · simp [h]
    · rw [if_neg h, ih]
      simp [h]
theorem count1_calls (x : Int) (w : World) : Calls Try.prog 47 #[.int .i64 x] w fun e w' => e = .returned (.bool (decide (x < 1))) ∧ w = w' := by
  go_enter Try.func47, Try.ntmps47
  go_wp2
  go_ret
  exact ⟨rfl, rfl⟩

set_option maxHeartbeats 1000000 in
theorem indexFunc_calls (v : Value) (l : List Int) (w : World) (hv : IntsAt w v l) :
    Calls Try.prog 56 #[v, .func (.func 47) #[] #[]] w fun e w' => e = .returned (.int .i64 (idxL 0 l)) ∧ Below w.heap.size w w' := by
  obtain ⟨A, n, c, rfl, hn, hm⟩ := hv.form
  have HV := Lib.hid hv
  have HN := Lib.hid hn
  clear hv hn
  go_enter Try.func56, Try.ntmps56
  go_wp2
  go_loopg [8] n (fun g i wr => ∃ k : Nat, k ≤ n ∧ g = n - k ∧ i = .int .i64 k ∧ Below w.heap.size w wr ∧ idxL 0 l = idxL k (l.drop k))
  case atStart => exact ⟨0, Nat.zero_le _, by omega, rfl, Below.refl _ _, rfl⟩
  case round =>
    obtain ⟨k, hk, hg, rfl, hB, hF⟩ := hrel
    have HG := Lib.hid hg
    have HF := Lib.hid hF
    clear hg hF
    by_cases hlt : k < n
    · obtain ⟨b, off, x, rfl, c0, hx, hd⟩ := (HV.out.keep hB).at hlt
      have hst : idxL 0 l = if x < 1 then (k : Int) else idxL (k + 1) (l.drop (k + 1)) := by rw [HF.out, hd, idxL]
      have HX := Lib.hid hx
      have HD := Lib.hid hd
      have HST := Lib.hid hst
      clear hx hd hst
      by_cases hx1 : x < 1
      · have hfin : idxL 0 l = k := by rw [HST.out, if_pos hx1]
        have HFIN := Lib.hid hfin
        clear hfin
        go_wp2_with (go_at_call 47; refine (count1_calls x _).mono ?_; rintro e w1 ⟨rfl, rfl⟩)
        go_ret
        exact ⟨by rw [HFIN.out]; rfl, hB⟩
      · have hnext : idxL 0 l = idxL (k + 1) (l.drop (k + 1)) := by rw [HST.out, if_neg hx1]
        have HNEXT := Lib.hid hnext
        clear hnext
        go_wp2_with (go_at_call 47; refine (count1_calls x _).mono ?_; rintro e w1 ⟨rfl, rfl⟩)
        go_roundg (n - (k + 1))
        case measure => have := HG.out; omega
        case rel => exact ⟨k + 1, by omega, rfl, by go_num, hB, HNEXT.out⟩
    · have hfin : idxL 0 l = -1 := by rw [HF.out, List.drop_eq_nil_of_le (by have := HN.out; omega), idxL]
      have HFIN := Lib.hid hfin
      clear hfin
      go_wp2
      go_ret
      exact ⟨by rw [HFIN.out]; rfl, hB⟩

theorem containsFunc_calls (v : Value) (l : List Int) (w : World) (hv : IntsAt w v l) :
    Calls Try.prog 46 #[v, .func (.func 47) #[] #[]] w fun e w' => e = .returned (.bool (l.any (fun x => decide (x < 1)))) ∧ Below w.heap.size w w' := by
  have h1 := indexFunc_calls v l w hv
  have h2 := idxL_any l 0
  obtain ⟨A, n, c, rfl, hn, hm⟩ := hv.form
  generalize idxL 0 l = z at h1 h2
  have H1 := Lib.hid h1
  have H2 := Lib.hid h2
  have HN := Lib.hid hn
  have HV := Lib.hid hv
  clear h1 h2 hn hv
  go_enter Try.func46, Try.ntmps46
  go_wp2_with (go_at_call 56; refine H1.out.mono ?_; rintro e w1 ⟨rfl, hb1⟩)
  go_ret
  exact ⟨by rw [← H2.out]; rfl, hb1⟩

def countL (p : List Fact) : Nat → Int → List Int → Int
  | _, n, [] => n
  | v, n, k :: r => if 0 ≤ valueF p v then countL p (v + 1) n r else if 65536 / n < k then 65537 else countL p (v + 1) (n * k) r
def rcountL (p : List Fact) : Nat → Int → List Int → Int
  | _, n, [] => n
  | v, n, k :: r => if k < 1 then 0 else if valueF p v < 0 then rcountL p (v + 1) (min (n * min k 65537) 65537) r else rcountL p (v + 1) n r
def low (vars : List Int) : Bool := vars.any (fun x => decide (x < 1))
def countF (vars : List Int) (p : List Fact) : Int := if propF vars p then (if low vars then 0 else countL p 0 1 vars) else 0
def rcountF (vars : List Int) (p : List Fact) : Int := if propF vars p then rcountL p 0 1 vars else 0

theorem mul_room {n k : Int} (h1 : 1 ≤ n) (h2 : n ≤ 65536) (hk : 1 ≤ k) (h : ¬ 65536 / n < k) : 1 ≤ n * k ∧ n * k ≤ 65536 := by
  have h3 : k ≤ 65536 / n := by omega
  have h4 := Int.mul_le_mul_of_nonneg_left h3 (show 0 ≤ n by omega)
  have h5 := Int.mul_ediv_self_le (x := 65536) (k := n) (by omega)
  have h6 : 1 * 1 ≤ n * k := Int.mul_le_mul h1 hk (by omega) (by omega)
  omega

set_option maxHeartbeats 1000000 in
theorem count_calls (sv pv : Value) (vars : List Int) (p : List Fact) (w : World) (hs : IntsAt w sv vars) (hp : FactsAt w pv p) :
    Calls Try.prog 24 #[sv, pv] w fun e w' => e = .returned (.int .i64 (countF vars p)) ∧ Below w.heap.size w w' := by
  have h1 := facts_calls _ _ vars p w hs hp
  have h2 := fun (W : World) (hb : Below w.heap.size w W) => containsFunc_calls _ vars W (hs.keep hb)
  obtain ⟨A, n, c, rfl, hn, hm⟩ := hs.form
  obtain ⟨pA, pn, pc, rfl, hpn, hpm⟩ := hp.form
  cases hpr : propF vars p
  · have hfin : countF vars p = 0 := by simp [countF, hpr]
    rw [hfin]
    rw [hpr] at h1
    have H1 := Lib.hid h1
    have H2 := Lib.hid h2
    have HPR := Lib.hid hpr
    have HS := Lib.hid hs
    have HP := Lib.hid hp
    have HN := Lib.hid hn
    have HPN := Lib.hid hpn
    have HFIN := Lib.hid hfin
    clear h1 h2 hpr hs hp hn hpn hfin
    go_enter Try.func24, Try.ntmps24
    go_wp2_with (go_at_call 42; refine H1.out.mono ?_; rintro e w1 ⟨rfl, hb1⟩)
    go_ret
    exact ⟨rfl, hb1⟩
  · rw [hpr] at h1
    cases hlow : low vars
    · have hfin : countF vars p = countL p 0 1 vars := by simp [countF, hpr, hlow]
      have hall : ∀ k ∈ vars, 1 ≤ k := by
        intro k hk
        have := List.any_eq_false.1 hlow k hk
        simpa using this
      unfold low at hlow
      rw [hlow] at h2
      have H1 := Lib.hid h1
      have H2 := Lib.hid h2
      have HPR := Lib.hid hpr
      have HS := Lib.hid hs
      have HP := Lib.hid hp
      have HN := Lib.hid hn
      have HPN := Lib.hid hpn
      have HFIN := Lib.hid hfin
      have HLOW := Lib.hid hlow
      have HALL := Lib.hid hall
      clear h1 h2 hpr hs hp hn hpn hfin hlow hall
      go_enter Try.func24, Try.ntmps24
      go_wp2_with (first
        | (go_at_call 42; refine H1.out.mono ?_; rintro e w1 ⟨rfl, hb1⟩)
        | (go_at_call 46; refine (H2.out _ hb1).mono ?_; rintro e w2 ⟨rfl, hb2⟩))
      go_loopg [5, 18] n (fun g s i wr => ∃ (k : Nat) (m : Int), k ≤ n ∧ g = n - k ∧ i = .int .i64 k ∧ s = .int .i64 m ∧ 1 ≤ m ∧ m ≤ 65536 ∧ Below w.heap.size w wr ∧ countF vars p = countL p k m (vars.drop k))
      case atStart => exact ⟨0, 1, Nat.zero_le _, by omega, rfl, rfl, by omega, by omega, belowT hb1 hb2, HFIN.out⟩
      case round =>
        obtain ⟨k, m, hk, hg, rfl, rfl, hm1, hm2, hB, hF⟩ := hrel
        have HG := Lib.hid hg
        have HF := Lib.hid hF
        clear hg hF
        by_cases hlt : k < n
        · obtain ⟨b, off, x, rfl, c0, hx, hd⟩ := (HS.out.keep hB).at hlt
          have h3 := find_calls _ p (k : Int) _ (HP.out.keep hB)
          have hx1 : 1 ≤ x := HALL.out x (List.mem_of_getElem? hx)
          have hst : countF vars p = if 0 ≤ valueF p k then countL p (k + 1) m (vars.drop (k + 1)) else if 65536 / m < x then 65537 else countL p (k + 1) (m * x) (vars.drop (k + 1)) := by rw [HF.out, hd, countL]
          generalize valueF p k = fv at h3 hst
          by_cases hf : 0 ≤ fv
          · rw [if_pos hf] at hst
            have HX := Lib.hid hx
            have HD := Lib.hid hd
            have HST := Lib.hid hst
            have H3 := Lib.hid h3
            clear hx hd hst h3
            go_wp2_with (go_at_call 43; refine H3.out.mono ?_; rintro e w3 ⟨rfl, hb3⟩)
            go_roundg (n - (k + 1))
            case measure => have := HG.out; omega
            case rel => exact ⟨k + 1, m, by omega, rfl, by go_num, rfl, hm1, hm2, belowT hB hb3, HST.out⟩
          · rw [if_neg hf] at hst
            have hq1 : 0 ≤ 65536 / m := Int.ediv_nonneg (by omega) (by omega)
            have hq2 : 65536 / m ≤ 65536 := Int.ediv_le_self _ (by omega)
            by_cases hbig : 65536 / m < x
            · rw [if_pos hbig] at hst
              have HX := Lib.hid hx
              have HD := Lib.hid hd
              have HST := Lib.hid hst
              have H3 := Lib.hid h3
              clear hx hd hst h3
              go_wp2_with (go_at_call 43; refine H3.out.mono ?_; rintro e w3 ⟨rfl, hb3⟩)
              go_ret
              exact ⟨by rw [HST.out]; rfl, belowT hB hb3⟩
            · rw [if_neg hbig] at hst
              obtain ⟨hmu1, hmu2⟩ := mul_room hm1 hm2 hx1 hbig
              have hmu0 : 0 ≤ m * x := by omega
              have HX := Lib.hid hx
              have HD := Lib.hid hd
              have HST := Lib.hid hst
              have H3 := Lib.hid h3
              clear hx hd hst h3
              go_wp2_with (go_at_call 43; refine H3.out.mono ?_; rintro e w3 ⟨rfl, hb3⟩)
              go_roundg (n - (k + 1))
              case measure => have := HG.out; omega
              case rel => exact ⟨k + 1, m * x, by omega, rfl, by go_num, by first | rfl | go_num, hmu1, hmu2, belowT hB hb3, HST.out⟩
        · have hf2 : countF vars p = m := by rw [HF.out, List.drop_eq_nil_of_le (by have := HN.out; omega), countL]
          have HF2 := Lib.hid hf2
          clear hf2
          go_wp2
          go_ret
          exact ⟨by rw [HF2.out]; rfl, hB⟩
    · have hfin : countF vars p = 0 := by simp [countF, hpr, hlow]
      rw [hfin]
      unfold low at hlow
      rw [hlow] at h2
      have H1 := Lib.hid h1
      have H2 := Lib.hid h2
      have HPR := Lib.hid hpr
      have HS := Lib.hid hs
      have HP := Lib.hid hp
      have HN := Lib.hid hn
      have HPN := Lib.hid hpn
      have HFIN := Lib.hid hfin
      have HLOW := Lib.hid hlow
      clear h1 h2 hpr hs hp hn hpn hfin hlow
      go_enter Try.func24, Try.ntmps24
      go_wp2_with (first
        | (go_at_call 42; refine H1.out.mono ?_; rintro e w1 ⟨rfl, hb1⟩)
        | (go_at_call 46; refine (H2.out _ hb1).mono ?_; rintro e w2 ⟨rfl, hb2⟩))
      go_ret
      exact ⟨rfl, belowT hb1 hb2⟩

theorem mul_small {m x : Int} (h1 : 1 ≤ m) (h2 : m ≤ 65537) (h3 : 1 ≤ x) (h4 : x ≤ 65537) : 1 ≤ m * x ∧ m * x ≤ 4295098369 := by
  have a := Int.mul_le_mul h1 h3 (by omega) (by omega)
  have b := Int.mul_le_mul h2 h4 (by omega) (by omega)
  omega
set_option maxHeartbeats 2000000 in
theorem rcount_calls (sv pv : Value) (vars : List Int) (p : List Fact) (w : World) (hs : IntsAt w sv vars) (hp : FactsAt w pv p) :
    Calls Try.prog 25 #[sv, pv] w fun e w' => e = .returned (.int .i64 (rcountF vars p)) ∧ Below w.heap.size w w' := by
  have h1 := bproper_calls _ _ vars p w hs hp
  obtain ⟨A, n, c, rfl, hn, hm⟩ := hs.form
  obtain ⟨pA, pn, pc, rfl, hpn, hpm⟩ := hp.form
  cases hpr : propF vars p
  · have hfin : rcountF vars p = 0 := by simp [rcountF, hpr]
    rw [hfin]
    rw [hpr] at h1
    have H1 := Lib.hid h1
    have HPR := Lib.hid hpr
    have HS := Lib.hid hs
    have HP := Lib.hid hp
    have HN := Lib.hid hn
    have HPN := Lib.hid hpn
    have HFIN := Lib.hid hfin
    clear h1 hpr hs hp hn hpn hfin
    go_enter Try.func25, Try.ntmps25
    go_wp2_with (go_at_call 45; refine H1.out.mono ?_; rintro e w1 ⟨rfl, hb1⟩)
    go_ret
    exact ⟨rfl, hb1⟩
  · rw [hpr] at h1
    have hfin : rcountF vars p = rcountL p 0 1 vars := by simp [rcountF, hpr]
    have H1 := Lib.hid h1
    have HPR := Lib.hid hpr
    have HS := Lib.hid hs
    have HP := Lib.hid hp
    have HN := Lib.hid hn
    have HPN := Lib.hid hpn
    have HFIN := Lib.hid hfin
    clear h1 hpr hs hp hn hpn hfin
    go_enter Try.func25, Try.ntmps25
    go_wp2_with (go_at_call 45; refine H1.out.mono ?_; rintro e w1 ⟨rfl, hb1⟩)
    go_loopg [5, 14] n (fun g s i wr => ∃ (k : Nat) (m : Int), k ≤ n ∧ g = n - k ∧ i = .int .i64 k ∧ s = .int .i64 m ∧ 1 ≤ m ∧ m ≤ 65537 ∧ Below w.heap.size w wr ∧ rcountF vars p = rcountL p k m (vars.drop k))
    case atStart => exact ⟨0, 1, Nat.zero_le _, by omega, rfl, rfl, by omega, by omega, hb1, HFIN.out⟩
    case round =>
      obtain ⟨k, m, hk, hg, rfl, rfl, hm1, hm2, hB, hF⟩ := hrel
      have HG := Lib.hid hg
      have HF := Lib.hid hF
      clear hg hF
      by_cases hlt : k < n
      · obtain ⟨b, off, x, rfl, c0, hx, hd⟩ := (HS.out.keep hB).at hlt
        have h3 := value_calls _ p (k : Int) _ (HP.out.keep hB)
        have hst : rcountF vars p = if x < 1 then 0 else if valueF p k < 0 then rcountL p (k + 1) (min (m * min x 65537) 65537) (vars.drop (k + 1)) else rcountL p (k + 1) m (vars.drop (k + 1)) := by rw [HF.out, hd, rcountL]
        by_cases hx1 : x < 1
        · rw [if_pos hx1] at hst
          have HX := Lib.hid hx
          have HD := Lib.hid hd
          have HST := Lib.hid hst
          have H3 := Lib.hid h3
          clear hx hd hst h3
          go_wp2_with fail
          go_ret
          exact ⟨by rw [HST.out]; rfl, hB⟩
        · rw [if_neg hx1] at hst
          generalize valueF p k = fv at h3 hst
          by_cases hf : fv < 0
          · rw [if_pos hf] at hst
            rcases Int.lt_trichotomy x 65537 with hxa | hxa | hxa
            · rw [show min x 65537 = x by omega] at hst
              obtain ⟨hy0, hy1⟩ := mul_small hm1 hm2 (show 1 ≤ x by omega) (show x ≤ 65537 by omega)
              rcases Int.lt_trichotomy (m * x) 65537 with hya | hya | hya
              · rw [show min (m * x) 65537 = m * x by omega] at hst
                have HX := Lib.hid hx
                have HD := Lib.hid hd
                have HST := Lib.hid hst
                have H3 := Lib.hid h3
                clear hx hd hst h3
                go_wp2_with (go_at_call 37; refine H3.out.mono ?_; rintro e w3 ⟨rfl, hb3⟩)
                go_roundg (n - (k + 1))
                case measure => have := HG.out; omega
                case rel => exact ⟨k + 1, m * x, by omega, rfl, by go_num, by first | rfl | (rw [hya]) | go_num, by omega, by omega, belowT hB hb3, HST.out⟩
              · rw [hya, show min (65537 : Int) 65537 = 65537 by omega] at hst
                have HX := Lib.hid hx
                have HD := Lib.hid hd
                have HST := Lib.hid hst
                have H3 := Lib.hid h3
                clear hx hd hst h3
                go_wp2_with (go_at_call 37; refine H3.out.mono ?_; rintro e w3 ⟨rfl, hb3⟩)
                go_roundg (n - (k + 1))
                case measure => have := HG.out; omega
                case rel => exact ⟨k + 1, 65537, by omega, rfl, by go_num, by first | rfl | (rw [hya]) | go_num, by omega, by omega, belowT hB hb3, HST.out⟩
              · rw [show min (m * x) 65537 = 65537 by omega] at hst
                have HX := Lib.hid hx
                have HD := Lib.hid hd
                have HST := Lib.hid hst
                have H3 := Lib.hid h3
                clear hx hd hst h3
                go_wp2_with (go_at_call 37; refine H3.out.mono ?_; rintro e w3 ⟨rfl, hb3⟩)
                go_roundg (n - (k + 1))
                case measure => have := HG.out; omega
                case rel => exact ⟨k + 1, 65537, by omega, rfl, by go_num, by first | rfl | (rw [hya]) | go_num, by omega, by omega, belowT hB hb3, HST.out⟩
            · subst hxa
              rw [show min (65537 : Int) 65537 = 65537 by omega, show min (m * 65537) 65537 = 65537 by omega] at hst
              by_cases hme : m = 1
              · subst hme
                have HX := Lib.hid hx
                have HD := Lib.hid hd
                have HST := Lib.hid hst
                have H3 := Lib.hid h3
                clear hx hd hst h3
                go_wp2_with (go_at_call 37; refine H3.out.mono ?_; rintro e w3 ⟨rfl, hb3⟩)
                go_roundg (n - (k + 1))
                case measure => have := HG.out; omega
                case rel => exact ⟨k + 1, 65537, by omega, rfl, by go_num, by first | rfl | (rw [hya]) | go_num, by omega, by omega, belowT hB hb3, HST.out⟩
              · have hya : 65537 < m * 65537 := by omega
                have hyb : m * 65537 ≤ 4295098369 := by omega
                have HX := Lib.hid hx
                have HD := Lib.hid hd
                have HST := Lib.hid hst
                have H3 := Lib.hid h3
                clear hx hd hst h3
                go_wp2_with (go_at_call 37; refine H3.out.mono ?_; rintro e w3 ⟨rfl, hb3⟩)
                go_roundg (n - (k + 1))
                case measure => have := HG.out; omega
                case rel => exact ⟨k + 1, 65537, by omega, rfl, by go_num, by first | rfl | (rw [hya]) | go_num, by omega, by omega, belowT hB hb3, HST.out⟩
            · rw [show min x 65537 = 65537 by omega, show min (m * 65537) 65537 = 65537 by omega] at hst
              by_cases hme : m = 1
              · subst hme
                have HX := Lib.hid hx
                have HD := Lib.hid hd
                have HST := Lib.hid hst
                have H3 := Lib.hid h3
                clear hx hd hst h3
                go_wp2_with (go_at_call 37; refine H3.out.mono ?_; rintro e w3 ⟨rfl, hb3⟩)
                go_roundg (n - (k + 1))
                case measure => have := HG.out; omega
                case rel => exact ⟨k + 1, 65537, by omega, rfl, by go_num, by first | rfl | (rw [hya]) | go_num, by omega, by omega, belowT hB hb3, HST.out⟩
              · have hya : 65537 < m * 65537 := by omega
                have hyb : m * 65537 ≤ 4295098369 := by omega
                have HX := Lib.hid hx
                have HD := Lib.hid hd
                have HST := Lib.hid hst
                have H3 := Lib.hid h3
                clear hx hd hst h3
                go_wp2_with (go_at_call 37; refine H3.out.mono ?_; rintro e w3 ⟨rfl, hb3⟩)
                go_roundg (n - (k + 1))
                case measure => have := HG.out; omega
                case rel => exact ⟨k + 1, 65537, by omega, rfl, by go_num, by first | rfl | (rw [hya]) | go_num, by omega, by omega, belowT hB hb3, HST.out⟩
          · rw [if_neg hf] at hst
            have HX := Lib.hid hx
            have HD := Lib.hid hd
            have HST := Lib.hid hst
            have H3 := Lib.hid h3
            clear hx hd hst h3
            go_wp2_with (go_at_call 37; refine H3.out.mono ?_; rintro e w3 ⟨rfl, hb3⟩)
            go_roundg (n - (k + 1))
            case measure => have := HG.out; omega
            case rel => exact ⟨k + 1, m, by omega, rfl, by go_num, rfl, hm1, hm2, belowT hB hb3, HST.out⟩
      · have hf2 : rcountF vars p = m := by rw [HF.out, List.drop_eq_nil_of_le (by have := HN.out; omega), rcountL]
        have HF2 := Lib.hid hf2
        clear hf2
        go_wp2
        go_ret
        exact ⟨by rw [HF2.out]; rfl, hB⟩
end Go.Proofs.Ytpogmkplmcedlaa
