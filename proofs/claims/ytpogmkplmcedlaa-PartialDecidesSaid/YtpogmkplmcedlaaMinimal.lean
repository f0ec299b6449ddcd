/- stratagemlaw06.many, stratagemlaw06.Lists, partial.Minimal, stratagemref06.Minimal. -/
import Derived.Test.YtpogmkplmcedlaaLists
import Derived.Test.YtpogmkplmcedlaaCloneF
import Derived.Test.YtpogmkplmcedlaaContains
import Derived.Test.YtpogmkplmcedlaaFacts
import Derived.Test.YtpogmkplmcedlaaPlainF
namespace Go.Proofs.Ytpogmkplmcedlaa
open Go.RowKit

def manyL : Int → List (List Fact) → Int
  | n, [] => n
  | n, x :: r => manyL (wrap64 (n + x.length)) r
def manyF (l : List (List Fact)) : Bool := decide (400 < manyL l.length l)

set_option maxHeartbeats 1000000 in
theorem many_calls (v : Value) (l : List (List Fact)) (w : World) (hv : ListsAt w v l) :
    Calls Try.prog 18 #[v] w fun e w' => e = .returned (.bool (manyF l)) ∧ Below w.heap.size w w' := by
  obtain ⟨A, n, c, rfl, hn, hm⟩ := hv.form
  have hn0 : ((n : Int)) = (l.length : Int) := by omega
  have HV := Lib.hid hv
  have HN := Lib.hid hn
  have HN0 := Lib.hid hn0
  clear hv hn hn0
  go_enter Try.func18, Try.ntmps18
  go_wp2
  go_loopg [3, 10] n (fun g s i wr => ∃ (k : Nat) (m : Int), k ≤ n ∧ g = n - k ∧ i = .int .i64 k ∧ s = .int .i64 m ∧ Below w.heap.size w wr ∧ manyL l.length l = manyL m (l.drop k))
  case atStart => exact ⟨0, _, Nat.zero_le _, by omega, rfl, rfl, Below.refl _ _, by rw [← HN0.out]; rfl⟩
  case round =>
    obtain ⟨k, m, hk, hg, rfl, rfl, hB, hF⟩ := hrel
    have HG := Lib.hid hg
    have HF := Lib.hid hF
    clear hg hF
    by_cases hlt : k < n
    · obtain ⟨b, off, fA, fn, fc, fs, rfl, c0, hfn, hfm, hfv, hx, hd⟩ := (HV.out.keep hB).at hlt
      have hbr : b < wr.heap.size := lt_of_cell c0
      have HX := Lib.hid hx
      have HD := Lib.hid hd
      have HFV := Lib.hid hfv
      have HFN := Lib.hid hfn
      clear hx hd hfv hfn
      go_wp2
      go_roundg (n - (k + 1))
      case measure => have := HG.out; omega
      case rel => exact ⟨k + 1, _, by omega, rfl, by go_num, rfl, hB, by rw [HF.out, HD.out, manyL, HFN.out]⟩
    · have hfin : manyL l.length l = m := by rw [HF.out, List.drop_eq_nil_of_le (by have := HN.out; omega), manyL]
      have hres : manyF l = decide (400 < m) := by rw [manyF, hfin]
      have HFIN := Lib.hid hfin
      have HRES := Lib.hid hres
      clear hfin hres
      go_wp2
      go_ret
      exact ⟨by rw [HRES.out]; rfl, hB⟩

def listsL : List (List Fact) → List (List Fact) → Bool
  | x :: r, y :: s => sameF x y && listsL r s
  | _, _ => true
def listsF (a b : List (List Fact)) : Bool := decide (a.length = b.length) && listsL a b
theorem listsL_self (a : List (List Fact)) : listsL a a = true := by
  induction a with
  | nil => rfl
  | cons x r ih => simp [listsL, ih, sameF]
theorem listsF_self (a : List (List Fact)) : listsF a a = true := by simp [listsF, listsL_self]

set_option maxHeartbeats 1000000 in
theorem lists_calls (u v : Value) (a b : List (List Fact)) (w : World) (hu : ListsAt w u a) (hv : ListsAt w v b) :
    Calls Try.prog 19 #[u, v] w fun e w' => e = .returned (.bool (listsF a b)) ∧ Below w.heap.size w w' := by
  obtain ⟨A, n, c, rfl, hn, hm⟩ := hu.form
  obtain ⟨A', n', c', rfl, hn', hm'⟩ := hv.form
  by_cases hne : n = n'
  · subst hne
    have hF0 : listsF a b = listsL a b := by
      have : a.length = b.length := by omega
      simp [listsF, this]
    have HU := Lib.hid hu
    have HV := Lib.hid hv
    have HN := Lib.hid hn
    have HN' := Lib.hid hn'
    have HF0 := Lib.hid hF0
    clear hu hv hn hn' hF0
    go_enter Try.func19, Try.ntmps19
    go_wp2
    go_loopg [13] n (fun g i wr => ∃ k : Nat, k ≤ n ∧ g = n - k ∧ i = .int .i64 k ∧ Below w.heap.size w wr ∧ listsF a b = listsL (a.drop k) (b.drop k))
    case atStart => exact ⟨0, Nat.zero_le _, by omega, rfl, Below.refl _ _, HF0.out⟩
    case round =>
      obtain ⟨k, hk, hg, rfl, hB, hF⟩ := hrel
      have HG := Lib.hid hg
      have HF := Lib.hid hF
      clear hg hF
      by_cases hlt : k < n
      · obtain ⟨bb, off, xA, xn, xc, x, rfl, c0, hxn, hxm, hxv, hx, hd⟩ := (HU.out.keep hB).at hlt
        obtain ⟨bb', off', yA, yn, yc, y, rfl, c0', hyn, hym, hyv, hy, hd'⟩ := (HV.out.keep hB).at hlt
        have hbr : bb < wr.heap.size := lt_of_cell c0
        have hbr' : bb' < wr.heap.size := lt_of_cell c0'
        have hb0 : Below wr.heap.size wr wr.drew := (Below.refl _ _).drew
        have hvc := bfacts_calls _ _ x y _ (hxv.keep hb0) (hyv.keep hb0)
        have hstep : listsF a b = (sameF x y && listsL (a.drop (k + 1)) (b.drop (k + 1))) := by rw [HF.out, hd, hd', listsL]
        generalize sameF x y = t at hvc hstep
        have HX := Lib.hid hx
        have HD := Lib.hid hd
        have HXV := Lib.hid hxv
        have HY := Lib.hid hy
        have HD' := Lib.hid hd'
        have HYV := Lib.hid hyv
        have HXN := Lib.hid hxn
        have HYN := Lib.hid hyn
        have HVC := Lib.hid hvc
        have HSTEP := Lib.hid hstep
        have HB0 := Lib.hid hb0
        clear hx hd hxv hy hd' hyv hxn hyn hvc hstep hb0
        go_upto_region 6 with fail
        go_cut [25] (fun z wx => z = .bool (!t) ∧ Below w.heap.size w wx)
        case first =>
          go_region_held3 (fun w' => w'.cell? ⟨bb, off + k, none⟩ = some (.slice xA xn xc) ∧ w'.cell? ⟨bb', off' + k, none⟩ = some (.slice yA yn yc))
            (first | exact ⟨q0, q1⟩ | exact ⟨kept HB0.out c0, kept HB0.out c0'⟩)
            (first
              | (go_at_call 13; refine HVC.out.mono ?_; rintro e w1 ⟨rfl, hb1⟩; have q0 := kept (belowT HB0.out hb1) c0; have q1 := kept (belowT HB0.out hb1) c0'; have HB1 := Lib.hid (belowT hB (belowT HB0.out hb1)); clear hb1)
              | fail)
          all_goals (go_wp2_with fail; go_meet; exact ⟨rfl, HB1.out⟩)
        case rest =>
          obtain ⟨rfl, hB'⟩ := hcut
          cases t
          · go_wp2
            go_ret
            exact ⟨by rw [HSTEP.out]; rfl, hB'⟩
          · go_wp2
            go_roundg (n - (k + 1))
            case measure => have := HG.out; omega
            case rel => exact ⟨k + 1, by omega, rfl, by go_num, hB', by rw [HSTEP.out]; rfl⟩
      · have hfin : listsF a b = true := by
          rw [HF.out, List.drop_eq_nil_of_le (by have := HN.out; omega)]
          simp [listsL]
        have HFIN := Lib.hid hfin
        clear hfin
        go_wp2
        go_ret
        exact ⟨by rw [HFIN.out]; rfl, hB⟩
  · have hfin : listsF a b = false := by
      have : ¬ a.length = b.length := by omega
      simp [listsF, this]
    have hne' : ¬ ((n : Int) = (n' : Int)) := by omega
    have HU := Lib.hid hu
    have HV := Lib.hid hv
    have HN := Lib.hid hn
    have HN' := Lib.hid hn'
    have HFIN := Lib.hid hfin
    clear hu hv hn hn' hfin
    go_enter Try.func19, Try.ntmps19
    go_wp2
    go_ret
    exact ⟨by rw [HFIN.out]; rfl, Below.refl _ _⟩
end Go.Proofs.Ytpogmkplmcedlaa
