/- partial.Minimal, stratagemref06.Minimal. -/
import Derived.Test.YtpogmkplmcedlaaMinimal
namespace Go.Proofs.Ytpogmkplmcedlaa
open Go.RowKit

def anyL {α : Type} (p : Nat → α → Bool) : Nat → List α → Bool
  | _, [] => false
  | j, y :: r => p j y || anyL p (j + 1) r
def hitF (i : Nat) (x : List Fact) (j : Nat) (y : List Fact) : Bool := decide (i ≠ j) && isF y && containsF x y && (decide (y.length < x.length) || decide (j < i))
def minL (l : List (List Fact)) : Nat → List (List Fact) → List (List Fact)
  | _, [] => []
  | i, x :: r => if isF x && !anyL (hitF i x) 0 l then x :: minL l (i + 1) r else minL l (i + 1) r
def minF (l : List (List Fact)) : List (List Fact) := minL l 0 l
theorem minL_len (l : List (List Fact)) : ∀ (r : List (List Fact)) (i : Nat), (minL l i r).length ≤ r.length
  | [], i => by simp [minL]
  | x :: r, i => by
    rw [minL]
    have := minL_len l r (i + 1)
    split <;> simp <;> omega


set_option maxHeartbeats 4000000 in
theorem minimal_calls (v : Value) (l : List (List Fact)) (w : World) (hv : ListsAt w v l) :
    Calls Try.prog 20 #[v] w fun e w' => ∃ v', e = .returned v' ∧ OwnL w' w.heap.size v' (minF l) ∧ Below w.heap.size w w' := by
  obtain ⟨A, n, c, rfl, hn, hm⟩ := hv.form
  have HV := Lib.hid hv
  have HN := Lib.hid hn
  clear hv hn
  go_enter Try.func20, Try.ntmps20
  go_wp2
  go_loopg [3, 11] n (fun g o i wr => ∃ (k : Nat) (acc : List (List Fact)), k ≤ n ∧ g = n - k ∧ i = .int .i64 k ∧ Below w.heap.size w wr ∧ acc.length ≤ k ∧ OwnL wr w.heap.size o acc ∧ minF l = acc ++ minL l k (l.drop k))
  case atStart => exact ⟨0, [], Nat.zero_le _, by omega, rfl, Below.refl _ _, by simp, OwnL.nil_ _ _, rfl⟩
  case round =>
    obtain ⟨k, acc, hk, hg, rfl, hB, hacc, hown, hF⟩ := hrel
    have HG := Lib.hid hg
    have HF := Lib.hid hF
    have HACC := Lib.hid hacc
    have HOWN := Lib.hid hown
    clear hg hF hacc hown
    by_cases hlt : k < n
    · obtain ⟨b, off, xA, xn, xc, x, rfl, c0, hxn, hxm, hxv, hx, hd⟩ := (HV.out.keep hB).at hlt
      have hbr : b < wr.heap.size := lt_of_cell c0
      have hvc := valid_calls _ x _ hxv
      have hstep : minF l = acc ++ minL l k (x :: l.drop (k + 1)) := by rw [HF.out, hd]
      rw [minL] at hstep
      cases hix : isF x
      · have hnext : minF l = acc ++ minL l (k + 1) (l.drop (k + 1)) := by rw [hstep, hix]; rfl
        rw [hix] at hvc
        have HX := Lib.hid hx
        have HD := Lib.hid hd
        have HXV := Lib.hid hxv
        have HXN := Lib.hid hxn
        have HVC := Lib.hid hvc
        have HSTEP := Lib.hid hstep
        have HNEXT := Lib.hid hnext
        have HIX := Lib.hid hix
        clear hx hd hxv hxn hvc hstep hnext hix
        go_wp2_with (go_at_call 36; refine HVC.out.mono ?_; rintro e w1 ⟨rfl, hb1⟩)
        go_roundg (n - (k + 1))
        case measure => have := HG.out; omega
        case rel => exact ⟨k + 1, acc, by omega, rfl, by go_num, belowT hB hb1, by have := HACC.out; omega, HOWN.out.keep hb1 hB.size, HNEXT.out⟩
      · rw [hix] at hvc hstep
        simp only [Bool.true_and] at hstep
        have HX := Lib.hid hx
        have HD := Lib.hid hd
        have HXV := Lib.hid hxv
        have HXN := Lib.hid hxn
        have HVC := Lib.hid hvc
        have HSTEP := Lib.hid hstep
        have HIX := Lib.hid hix
        clear hx hd hxv hxn hvc hstep hix
        go_wp2_with (go_at_call 36; refine HVC.out.mono ?_; rintro e w1 ⟨rfl, hb1⟩)
        have hB1 := belowT hB hb1
        have hown1 := HOWN.out.keep hb1 hB.size
        have hxv1 := HXV.out.keep hb1
        have HOWN1 := Lib.hid hown1
        have HXV1 := Lib.hid hxv1
        have HB1 := Lib.hid hb1
        clear hown1 hxv1 hb1
        clear hB HOWN HXV HVC
        go_loopg [6, 21] n (fun g kp jj wr => ∃ (j : Nat), j ≤ n ∧ g = n - j ∧ jj = .int .i64 j ∧ kp = .bool true ∧ Below w1.heap.size w1 wr ∧ anyL (hitF k x) 0 l = anyL (hitF k x) j (l.drop j))
        case atStart => exact ⟨0, Nat.zero_le _, by omega, rfl, rfl, Below.refl _ _, rfl⟩
        case round =>
          obtain ⟨j, hj, hgi, rfl, rfl, hBi, hFI⟩ := hrel
          have HGI := Lib.hid hgi
          have HFI := Lib.hid hFI
          clear hgi hFI
          by_cases hltj : j < n
          · obtain ⟨b', off', yA, yn, yc, y, hAA, c0', hyn, hym, hyv, hy, hdj⟩ := (HV.out.keep (belowT hB1 hBi)).at hltj
            injection hAA with hAA
            injection hAA with hA1 hA2 hA3
            subst hA1 hA2
            clear hA3
            have hbr' : b < wr.heap.size := lt_of_cell c0'
            have hvy := valid_calls _ y _ hyv
            have hcy := fun (W : World) (hb : Below wr.heap.size wr W) => contains_calls _ _ x y W ((HXV1.out.keep hBi).keep hb) (hyv.keep hb)
            have hst : anyL (hitF k x) 0 l = (hitF k x j y || anyL (hitF k x) (j + 1) (l.drop (j + 1))) := by rw [HFI.out, hdj, anyL]
            have hhit : hitF k x j y = (decide ((k : Int) ≠ (j : Int)) && isF y && containsF x y && (decide ((yn : Int) < (xn : Int)) || decide ((j : Int) < (k : Int)))) := by
              have e1 := HXN.out
              have e2 : decide (k ≠ j) = decide ((k : Int) ≠ (j : Int)) := by rw [decide_eq_decide]; omega
              have e3 : decide (y.length < x.length) = decide ((yn : Int) < (xn : Int)) := by rw [decide_eq_decide]; omega
              have e4 : decide (j < k) = decide ((j : Int) < (k : Int)) := by rw [decide_eq_decide]; omega
              rw [hitF, e2, e3, e4]
            generalize containsF x y = tc at hcy hhit
            generalize isF y = ty at hvy hhit
            have HY := Lib.hid hy
            have HDJ := Lib.hid hdj
            have HYV := Lib.hid hyv
            have HYN := Lib.hid hyn
            have HVY := Lib.hid hvy
            have HCY := Lib.hid hcy
            have HST := Lib.hid hst
            have HHIT := Lib.hid hhit
            clear hy hdj hyv hyn hvy hcy hst hhit
            by_cases hij : (k : Int) = (j : Int)
            · have hnext : anyL (hitF k x) 0 l = anyL (hitF k x) (j + 1) (l.drop (j + 1)) := by rw [HST.out, HHIT.out]; simp [hij]
              have HNEXT := Lib.hid hnext
              clear hnext
              go_wp2_with fail
              go_roundg (n - (j + 1))
              case measure => have := HGI.out; omega
              case rel => exact ⟨j + 1, by omega, rfl, by go_num, rfl, hBi, HNEXT.out⟩
            · cases ty
              · have hnext : anyL (hitF k x) 0 l = anyL (hitF k x) (j + 1) (l.drop (j + 1)) := by rw [HST.out, HHIT.out]; simp
                have HNEXT := Lib.hid hnext
                clear hnext
                go_wp2_with (go_at_call 36; refine HVY.out.mono ?_; rintro e w2 ⟨rfl, hb2⟩)
                go_roundg (n - (j + 1))
                case measure => have := HGI.out; omega
                case rel => exact ⟨j + 1, by omega, rfl, by go_num, rfl, (belowT hBi hb2), HNEXT.out⟩
              · cases tc
                · have hnext : anyL (hitF k x) 0 l = anyL (hitF k x) (j + 1) (l.drop (j + 1)) := by rw [HST.out, HHIT.out]; simp
                  have HNEXT := Lib.hid hnext
                  clear hnext
                  go_wp2_with (first | (go_at_call 36; refine HVY.out.mono ?_; rintro e w2 ⟨rfl, hb2⟩) | (go_at_call 41; refine (HCY.out _ hb2).mono ?_; rintro e w3 ⟨rfl, hb3⟩))
                  go_roundg (n - (j + 1))
                  case measure => have := HGI.out; omega
                  case rel => exact ⟨j + 1, by omega, rfl, by go_num, rfl, (belowT hBi (belowT hb2 hb3)), HNEXT.out⟩
                · by_cases hhh : (yn : Int) < xn ∨ (j : Int) < k
                  · have hres : anyL (hitF k x) 0 l = true := by
                      rw [HST.out, HHIT.out]
                      simp only [Bool.and_true, Bool.or_eq_true, Bool.and_eq_true, decide_eq_true_eq]
                      exact .inl ⟨hij, hhh⟩
                    have hnext : minF l = acc ++ minL l (k + 1) (l.drop (k + 1)) := by rw [HSTEP.out, hres]; rfl
                    have HNEXT := Lib.hid hnext
                    have HRES := Lib.hid hres
                    clear hnext hres
                    by_cases hh1 : (yn : Int) < xn
                    · clear hhh
                      go_wp2_with (first | (go_at_call 36; refine HVY.out.mono ?_; rintro e w2 ⟨rfl, hb2⟩) | (go_at_call 41; refine (HCY.out _ hb2).mono ?_; rintro e w3 ⟨rfl, hb3⟩))
                      go_roundg (n - (k + 1))
                      case measure => have := HG.out; omega
                      case rel => exact ⟨k + 1, acc, by omega, rfl, by go_num, belowT hB1 (belowT hBi (belowT hb2 hb3)), by have := HACC.out; omega, HOWN1.out.keep (belowT hBi (belowT hb2 hb3)) hB1.size, HNEXT.out⟩
                    · have hh2 : (j : Int) < k := hhh.resolve_left hh1
                      clear hhh
                      go_wp2_with (first | (go_at_call 36; refine HVY.out.mono ?_; rintro e w2 ⟨rfl, hb2⟩) | (go_at_call 41; refine (HCY.out _ hb2).mono ?_; rintro e w3 ⟨rfl, hb3⟩))
                      go_roundg (n - (k + 1))
                      case measure => have := HG.out; omega
                      case rel => exact ⟨k + 1, acc, by omega, rfl, by go_num, belowT hB1 (belowT hBi (belowT hb2 hb3)), by have := HACC.out; omega, HOWN1.out.keep (belowT hBi (belowT hb2 hb3)) hB1.size, HNEXT.out⟩
                  · have hh1 : ¬ (yn : Int) < xn := fun h => hhh (.inl h)
                    have hh2 : ¬ (j : Int) < k := fun h => hhh (.inr h)
                    have hnext : anyL (hitF k x) 0 l = anyL (hitF k x) (j + 1) (l.drop (j + 1)) := by
                      have e1 : decide ((yn : Int) < (xn : Int)) = false := decide_eq_false hh1
                      have e2 : decide ((j : Int) < (k : Int)) = false := decide_eq_false hh2
                      rw [HST.out, HHIT.out, e1, e2]
                      simp
                    have HNEXT := Lib.hid hnext
                    clear hnext
                    clear hhh
                    go_wp2_with (first | (go_at_call 36; refine HVY.out.mono ?_; rintro e w2 ⟨rfl, hb2⟩) | (go_at_call 41; refine (HCY.out _ hb2).mono ?_; rintro e w3 ⟨rfl, hb3⟩))
                    go_roundg (n - (j + 1))
                    case measure => have := HGI.out; omega
                    case rel => exact ⟨j + 1, by omega, rfl, by go_num, rfl, (belowT hBi (belowT hb2 hb3)), HNEXT.out⟩
          · have hres : anyL (hitF k x) 0 l = false := by rw [HFI.out, List.drop_eq_nil_of_le (by have := HN.out; omega)]; rfl
            have hnext : minF l = (acc ++ [x]) ++ minL l (k + 1) (l.drop (k + 1)) := by rw [HSTEP.out, hres]; simp
            have hxv2 := HXV1.out.keep hBi
            have hown2 := HOWN1.out.keep hBi hB1.size
            have hB2 := belowT hB1 hBi
            have HNEXT := Lib.hid hnext
            have HRES := Lib.hid hres
            have HXV2 := Lib.hid hxv2
            have HOWN2 := Lib.hid hown2
            clear hnext hres hxv2 hown2
            go_wp2_with fail
            refine (cloneF_calls _ x _ HXV2.out).mono ?_
            rintro e w3 ⟨v3, rfl, hown3, hb3⟩
            obtain ⟨A3, c3, rfl⟩ := hown3.form
            have hB3 := belowT hB2 hb3
            have hent : EntryAt w3 w.heap.size (.slice A3 x.length c3) x := .inr ⟨own_mono hown3 hB2.size, by obtain ⟨_, _, _, hh, _⟩ := HXV2.out; exact hh⟩
            have hown4 := HOWN2.out.keep hb3 hB2.size
            generalize x.length = xl at hent hown3 ⊢
            have HOWN3 := Lib.hid hown3
            have HENT := Lib.hid hent
            have HOWN4 := Lib.hid hown4
            clear hown3 hent hown4
            go_wp2_with (at_builtin; refine wpList_append_list rfl (.tmp 52) (.tmp 55) rfl w3 w.heap.size u3 acc A3 xl c3 x rfl HOWN4.out HENT.out rfl (by have := HACC.out; omega) hB3.size ?_; intro v5 w5 hown5 hg5 hge5)
            go_roundg (n - (k + 1))
            case measure => have := HG.out; omega
            case rel => exact ⟨k + 1, acc ++ [x], by omega, rfl, by go_num, (belowA hB3 _).grown hg5 (by have := hB3.size; simp; omega) hge5, by have := HACC.out; simp; omega, hown5, HNEXT.out⟩
    · have hfin : minF l = acc := by rw [HF.out, List.drop_eq_nil_of_le (by have := HN.out; omega), minL, List.append_nil]
      have HFIN := Lib.hid hfin
      clear hfin
      go_wp2
      go_ret
      exact ⟨_, rfl, by rw [HFIN.out]; exact HOWN.out, hB⟩
end Go.Proofs.Ytpogmkplmcedlaa
