/- The order of nogoods: certificate.compare, slices.CompareFunc over facts, the closure of certificate.Sort. -/
import Derived.Test.YticdfbhbbapbdaaDoorBase
import Derived.Test.YticdfbhbbapbdaaDoorShelf
namespace Go.Proofs.YticdfbhbbapbdaaDoor
open Go.RowKit

def cmpI (x y : Int) : Int := Lib.compareInt x y
theorem cmpI_lt {x y : Int} : cmpI x y < 0 ↔ x < y := by unfold cmpI Lib.compareInt; repeat' split; all_goals omega
theorem cmpI_zero {x y : Int} : cmpI x y = 0 ↔ x = y := by unfold cmpI Lib.compareInt; repeat' split; all_goals omega
def cmpFact (x y : Fact) : Int := if cmpI x.1 y.1 ≠ 0 then cmpI x.1 y.1 else cmpI x.2 y.2
def cmpL : List Fact → List Fact → Int
  | [], [] => 0
  | [], _ :: _ => -1
  | _ :: _, [] => 1
  | x :: r, y :: s => if cmpFact x y ≠ 0 then cmpFact x y else cmpL r s
def cmpN (x y : Nogood) : Int := if cmpI x.2 y.2 ≠ 0 then cmpI x.2 y.2 else cmpL x.1 y.1

set_option maxHeartbeats 1000000 in
theorem compare_calls (x1 x2 y1 y2 : Int) (w : World) : Calls Tryd.prog 48 #[.agg #[.int .i64 x1, .int .i64 x2], .agg #[.int .i64 y1, .int .i64 y2]] w fun e w' => e = .returned (.int .i64 (cmpFact (x1, x2) (y1, y2))) ∧ Below w.heap.size w w' := by
  have h1 := fun (W : World) => Tryd.cmp_Compare_int x1 y1 W
  have h2 := fun (W : World) => Tryd.cmp_Compare_int x2 y2 W
  have hfin : cmpFact (x1, x2) (y1, y2) = if Lib.compareInt x1 y1 ≠ 0 then Lib.compareInt x1 y1 else Lib.compareInt x2 y2 := rfl
  generalize Lib.compareInt x1 y1 = c1 at h1 hfin
  generalize Lib.compareInt x2 y2 = c2 at h2 hfin
  generalize cmpFact (x1, x2) (y1, y2) = r at hfin ⊢
  have hB : Below w.heap.size w ((w.alloc (.cells #[.int .i64 x1, .int .i64 x2] 54)).alloc (.cells #[.int .i64 y1, .int .i64 y2] 54)) := belowA (belowA (Below.refl _ _) _) _
  by_cases hc : c1 = 0
  · have hb : (c1 != 0) = false := by simp [hc]
    have hr : r = c2 := by rw [hfin, if_neg (by simp [hc])]
    have H1 := Lib.hid h1
    have H2 := Lib.hid h2
    have HFIN := Lib.hid hfin
    have HR := Lib.hid hr
    have HC := Lib.hid hc
    have HB := Lib.hid hB
    clear h1 h2 hfin hr hc hB
    go_enter Tryd.func48, Tryd.ntmps48
    go_wp2_with fail
    refine (H1.out _).mono ?_
    rintro e w1 ⟨rfl, rfl⟩
    go_wp2_with fail
    refine (H2.out _).mono ?_
    rintro e w2 ⟨rfl, rfl⟩
    go_wp2_with fail
    go_ret
    exact ⟨by rw [HR.out]; rfl, HB.out⟩
  · have hb : (c1 != 0) = true := by simp [hc]
    have hr : r = c1 := by rw [hfin, if_pos hc]
    have H1 := Lib.hid h1
    have H2 := Lib.hid h2
    have HFIN := Lib.hid hfin
    have HR := Lib.hid hr
    have HB := Lib.hid hB
    clear h1 h2 hfin hr hB
    go_enter Tryd.func48, Tryd.ntmps48
    go_wp2_with fail
    refine (H1.out _).mono ?_
    rintro e w1 ⟨rfl, rfl⟩
    go_wp2_with fail
    go_ret
    exact ⟨by rw [HR.out]; rfl, HB.out⟩

set_option maxHeartbeats 2000000 in
theorem compareFunc_calls (u v : Value) (a b : List Fact) (w : World) (hu : FactsAt w u a) (hv : FactsAt w v b) :
    Calls Tryd.prog 47 #[u, v, .func (.func 48) #[] #[]] w fun e w' => e = .returned (.int .i64 (cmpL a b)) ∧ Below w.heap.size w w' := by
  obtain ⟨A, n, c, rfl, hn, hm⟩ := hu.form
  obtain ⟨A', n', c', rfl, hn', hm'⟩ := hv.form
  obtain ⟨D, hD⟩ : ∃ D, cmpL a b = D := ⟨_, rfl⟩
  rw [hD]
  have HU := Lib.hid hu
  have HV := Lib.hid hv
  have HN := Lib.hid hn
  have HN' := Lib.hid hn'
  have HD := Lib.hid hD
  clear hu hv hn hn' hD
  go_enter Tryd.func47, Tryd.ntmps47
  go_wp2
  go_loopg [13] n (fun g i wr => ∃ k : Nat, k ≤ n ∧ k ≤ n' ∧ g = n - k ∧ i = .int .i64 k ∧ Below w.heap.size w wr ∧ D = cmpL (a.drop k) (b.drop k))
  case atStart => exact ⟨0, Nat.zero_le _, Nat.zero_le _, by omega, rfl, Below.refl _ _, HD.out.symm⟩
  case round =>
    obtain ⟨k, hk, hk', hg, rfl, hB, hF⟩ := hrel
    have HG := Lib.hid hg
    have HF := Lib.hid hF
    clear hg hF
    by_cases hlt : k < n
    · obtain ⟨bb, off, x1, x2, rfl, c0, c1, hx, hd⟩ := (HU.out.keep hB).at hlt
      have hbr : bb < wr.heap.size := lt_of_cell c0
      by_cases hlt' : k < n'
      · obtain ⟨bb', off', y1, y2, rfl, d0, d1, hy, hd'⟩ := (HV.out.keep hB).at hlt'
        have hbr' : bb' < wr.heap.size := lt_of_cell d0
        have hst : D = if cmpFact (x1, x2) (y1, y2) ≠ 0 then cmpFact (x1, x2) (y1, y2) else cmpL (a.drop (k + 1)) (b.drop (k + 1)) := by rw [HF.out, hd, hd', cmpL]
        have h1 := fun (W : World) => compare_calls x1 x2 y1 y2 W
        generalize cmpFact (x1, x2) (y1, y2) = cc at hst h1
        by_cases hcc : cc = 0
        · have hb : (cc != 0) = false := by simp [hcc]
          have hnext : D = cmpL (a.drop (k + 1)) (b.drop (k + 1)) := by rw [hst, if_neg (by simp [hcc])]
          have HX := Lib.hid hx
          have HD2 := Lib.hid hd
          have HY := Lib.hid hy
          have HD3 := Lib.hid hd'
          have HST := Lib.hid hst
          have H1 := Lib.hid h1
          have HCC := Lib.hid hcc
          have HNEXT := Lib.hid hnext
          clear hx hd hy hd' hst h1 hcc hnext
          go_wp2_with (go_at_call 48; refine (H1.out _).mono ?_; rintro e w1 ⟨rfl, hb1⟩)
          go_roundg (n - (k + 1))
          case measure => have := HG.out; omega
          case rel => exact ⟨k + 1, by omega, by omega, rfl, by go_num, belowT (belowA (belowA hB _) _) hb1, HNEXT.out⟩
        · have hb : (cc != 0) = true := by simp [hcc]
          have hfin : D = cc := by rw [hst, if_pos hcc]
          have HX := Lib.hid hx
          have HD2 := Lib.hid hd
          have HY := Lib.hid hy
          have HD3 := Lib.hid hd'
          have HST := Lib.hid hst
          have H1 := Lib.hid h1
          have HFIN := Lib.hid hfin
          clear hx hd hy hd' hst h1 hfin
          go_wp2_with (go_at_call 48; refine (H1.out _).mono ?_; rintro e w1 ⟨rfl, hb1⟩)
          go_ret
          exact ⟨by rw [HFIN.out]; rfl, belowT (belowA (belowA hB _) _) hb1⟩
      · have hfin : D = 1 := by rw [HF.out, hd, show b.drop k = [] from List.drop_eq_nil_of_le (by have := HN'.out; omega), cmpL]
        have HX := Lib.hid hx
        have HD2 := Lib.hid hd
        have HFIN := Lib.hid hfin
        clear hx hd hfin
        go_wp2_with fail
        go_ret
        exact ⟨by rw [HFIN.out]; rfl, belowA hB _⟩
    · have hdn : a.drop k = [] := List.drop_eq_nil_of_le (by have := HN.out; omega)
      by_cases hlt' : n < n'
      · have hfin : D = -1 := by
          obtain ⟨y, _, hd'⟩ := some_at (l := b) (k := k) HN'.out (by omega)
          rw [HF.out, hdn, hd', cmpL]
        have HDN := Lib.hid hdn
        have HFIN := Lib.hid hfin
        clear hdn hfin
        go_wp2_with fail
        go_ret
        exact ⟨by rw [HFIN.out]; rfl, hB⟩
      · have hfin : D = 0 := by rw [HF.out, hdn, show b.drop k = [] from List.drop_eq_nil_of_le (by have := HN'.out; omega), cmpL]
        have HDN := Lib.hid hdn
        have HFIN := Lib.hid hfin
        clear hdn hfin
        go_wp2_with fail
        go_ret
        exact ⟨by rw [HFIN.out]; rfl, hB⟩

set_option maxHeartbeats 1000000 in
theorem sortCmp_calls (u v : Value) (a b : List Fact) (d e : Int) (w : World) (hu : FactsAt w u a) (hv : FactsAt w v b) :
    Calls Tryd.prog 45 #[.agg #[u, .int .i64 d], .agg #[v, .int .i64 e]] w fun r w' => r = .returned (.int .i64 (cmpN (a, d) (b, e))) ∧ Below w.heap.size w w' := by
  obtain ⟨A, n, c, rfl, hn, hm⟩ := hu.form
  obtain ⟨A', n', c', rfl, hn', hm'⟩ := hv.form
  have h1 := fun (W : World) => Tryd.cmp_Compare_int d e W
  have hB : Below w.heap.size w ((w.alloc (.cells #[.slice A n c, .int .i64 d] 45)).alloc (.cells #[.slice A' n' c', .int .i64 e] 45)) := belowA (belowA (Below.refl _ _) _) _
  have h2 := compareFunc_calls _ _ a b _ (hu.keep hB) (hv.keep hB)
  have hfin : cmpN (a, d) (b, e) = if Lib.compareInt d e ≠ 0 then Lib.compareInt d e else cmpL a b := rfl
  generalize Lib.compareInt d e = c1 at h1 hfin
  generalize cmpL a b = c2 at h2 hfin
  generalize cmpN (a, d) (b, e) = r at hfin ⊢
  by_cases hc : c1 = 0
  · have hb : (c1 != 0) = false := by simp [hc]
    have hr : r = c2 := by rw [hfin, if_neg (by simp [hc])]
    have H1 := Lib.hid h1
    have H2 := Lib.hid h2
    have HFIN := Lib.hid hfin
    have HR := Lib.hid hr
    have HC := Lib.hid hc
    have HB := Lib.hid hB
    have HU := Lib.hid hu
    have HV := Lib.hid hv
    have HN := Lib.hid hn
    have HN' := Lib.hid hn'
    clear h1 h2 hfin hr hc hB hu hv hn hn'
    go_enter Tryd.func45, Tryd.ntmps45
    go_wp2_with fail
    refine (H1.out _).mono ?_
    rintro e w1 ⟨rfl, rfl⟩
    go_wp2_with fail
    refine H2.out.mono ?_
    rintro e w2 ⟨rfl, hb2⟩
    go_wp2_with fail
    go_ret
    exact ⟨by rw [HR.out]; rfl, belowT HB.out hb2⟩
  · have hb : (c1 != 0) = true := by simp [hc]
    have hr : r = c1 := by rw [hfin, if_pos hc]
    have H1 := Lib.hid h1
    have H2 := Lib.hid h2
    have HFIN := Lib.hid hfin
    have HR := Lib.hid hr
    have HB := Lib.hid hB
    have HU := Lib.hid hu
    have HV := Lib.hid hv
    have HN := Lib.hid hn
    have HN' := Lib.hid hn'
    clear h1 h2 hfin hr hB hu hv hn hn'
    go_enter Tryd.func45, Tryd.ntmps45
    go_wp2_with fail
    refine (H1.out _).mono ?_
    rintro e w1 ⟨rfl, rfl⟩
    go_wp2_with fail
    go_ret
    exact ⟨by rw [HR.out]; rfl, HB.out⟩
end Go.Proofs.YticdfbhbbapbdaaDoor
