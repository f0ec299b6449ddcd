/- stratagemref06.Minimal. -/
import Derived.Test.YtpogmkplmcedlaaMinimalW
namespace Go.Proofs.Ytpogmkplmcedlaa
open Go.RowKit

def rhitF (i : Nat) (x : List Fact) (j : Nat) (y : List Fact) : Bool := isF y && ContainsF x y && (decide (y.length < x.length) || (decide (y.length = x.length) && decide (j < i)))
def rminL (l : List (List Fact)) : Nat → List (List Fact) → List (List Fact)
  | _, [] => []
  | i, x :: r => if isF x && !anyL (rhitF i x) 0 l then x :: rminL l (i + 1) r else rminL l (i + 1) r
def rminF (l : List (List Fact)) : List (List Fact) := rminL l 0 l

theorem asc_sub_len : ∀ (b a : List Fact), Asc a → Asc b → (∀ z ∈ b, z ∈ a) → b.length ≤ a.length
  | [], a, _, _, _ => by simp
  | y :: s, a, ha, hb, h => by
    obtain ⟨b1, b2⟩ := List.pairwise_cons.1 hb
    have hy := h y (by simp)
    have key : s.length ≤ (a.erase y).length := by
      refine asc_sub_len s (a.erase y) (List.Pairwise.sublist List.erase_sublist ha) b2 (fun z hz => ?_)
      have := b1 z hz
      exact (List.mem_erase_of_ne (fun e => by subst e; omega)).2 (h z (by simp [hz]))
    rw [List.length_erase_of_mem hy] at key
    have : 0 < a.length := List.length_pos_of_mem hy
    simp
    omega
theorem contains_len {x y : List Fact} (hx : isF x = true) (hy : isF y = true) (h : containsF x y = true) : y.length ≤ x.length := by
  obtain ⟨hnx, hax⟩ := (isF_iff x).1 hx
  obtain ⟨hny, hay⟩ := (isF_iff y).1 hy
  refine asc_sub_len y x hax hay (fun z hz => ?_)
  have h1 := List.all_eq_true.1 h z hz
  have h2 : valueF x z.1 = z.2 := by simpa using h1
  have h3 := (hny z hz).2
  have := valueF_mem (l := x) (v := z.1) (by omega)
  rw [h2] at this
  exact this
theorem anyL_congr {α : Type} {p q : Nat → α → Bool} : ∀ (r : List α) (j : Nat), (∀ (k : Nat) (y : α), r[k]? = some y → p (j + k) y = q (j + k) y) → anyL p j r = anyL q j r
  | [], _, _ => rfl
  | y :: r, j, h => by
    have ih := anyL_congr (p := p) (q := q) r (j + 1) (fun k z hz => by have := h (k + 1) z (by simpa using hz); rwa [show j + (k + 1) = j + 1 + k by omega] at this)
    have := h 0 y rfl
    rw [Nat.add_zero] at this
    rw [anyL, anyL, this, ih]
theorem hit_eq {l : List (List Fact)} {i : Nat} {x : List Fact} (hx : isF x = true) (hi : l[i]? = some x) : anyL (hitF i x) 0 l = anyL (rhitF i x) 0 l := by
  refine anyL_congr l 0 (fun j y hy => ?_)
  rw [Nat.zero_add]
  unfold hitF rhitF ContainsF
  rw [hx]
  cases hyf : isF y
  · simp
  · cases hc : containsF x y
    · simp
    · have hle := contains_len hx hyf hc
      by_cases hij : i = j
      · subst hij
        rw [hi] at hy
        injection hy with hy
        subst hy
        simp
      · rw [Bool.eq_iff_iff]
        simp only [Bool.and_true, Bool.true_and, Bool.and_eq_true, Bool.or_eq_true, decide_eq_true_eq]
        omega
theorem min_eq (l : List (List Fact)) : minF l = rminF l := by
  have key : ∀ (r : List (List Fact)) (i : Nat), l.drop i = r → minL l i r = rminL l i r := by
    intro r
    induction r with
    | nil => intro i _; rfl
    | cons x r ih =>
      intro i hd
      have hi : l[i]? = some x := by
        have := congrArg (fun t => t[0]?) hd
        simpa using this
      have hd' : l.drop (i + 1) = r := by
        have := congrArg List.tail hd
        simpa using this
      rw [minL, rminL, ih (i + 1) hd']
      cases hx : isF x
      · rfl
      · rw [hit_eq hx hi]
  exact key l 0 rfl

theorem rstep_next {kb : Bool} {P : Bool} {A B : Bool} (h1 : P = (kb && !A)) (h2 : A = (false || B)) : P = (kb && !B) := by rw [h1, h2]; simp
theorem rstep_hit {kb : Bool} {P : Bool} {A B : Bool} (h1 : P = (kb && !A)) (h2 : A = (true || B)) : P = (false && !B) := by rw [h1, h2]; simp


set_option maxHeartbeats 4000000 in
theorem rminimal_calls (v : Value) (l : List (List Fact)) (w : World) (hv : ListsAt w v l) :
    Calls Try.prog 21 #[v] w fun e w' => ∃ v', e = .returned v' ∧ OwnL w' w.heap.size v' (rminF l) ∧ Below w.heap.size w w' := by
  obtain ⟨A, n, c, rfl, hn, hm⟩ := hv.form
  have HV := Lib.hid hv
  have HN := Lib.hid hn
  clear hv hn
  go_enter Try.func21, Try.ntmps21
  go_wp2
  go_loopg [3, 11] n (fun g o i wr => ∃ (k : Nat) (acc : List (List Fact)), k ≤ n ∧ g = n - k ∧ i = .int .i64 k ∧ Below w.heap.size w wr ∧ acc.length ≤ k ∧ OwnL wr w.heap.size o acc ∧ rminF l = acc ++ rminL l k (l.drop k))
  case atStart => exact ⟨0, [], Nat.zero_le _, by omega, rfl, Below.refl _ _, by simp, OwnL.nil_ _ _, rfl⟩
  case round =>
    obtain ⟨k, acc, hk, hg, rfl, hB, hacc, hown, hF⟩ := hrel
    have HG := Lib.hid hg
    have HF := Lib.hid hF
    have HACC := Lib.hid hacc
    have HOWN := Lib.hid hown
    clear hg hF hacc hown
    by_cases hlt : k < n
    · obtain ⟨b, off, xA, xn, xc, x, rfl, c0, hxn, hxm, hxv, hx, hd⟩ := (HV.out.keep hB).at hlt
      have hbr : b < wr.heap.size := lt_of_cell c0
      have hvc := is_calls _ x _ hxv
      have hlow : FactsLow w w.heap.size (.slice xA xn xc) x := by
        obtain ⟨b', off', xA', xn', xc', x', hAA, c0', _, _, hxv', hx', _⟩ := HV.out.at hlt
        injection hAA with hAA
        injection hAA with hA1 hA2
        subst hA1 hA2
        have e1 := kept hB c0'
        rw [c0] at e1
        injection e1 with e1
        rw [hx] at hx'
        injection hx' with hx'
        subst hx'
        rw [e1]
        exact FactsLow.of hxv'
      have hstep : rminF l = acc ++ rminL l k (x :: l.drop (k + 1)) := by rw [HF.out, hd]
      rw [rminL] at hstep
      generalize hix : isF x = ix at hvc hstep
      have HX := Lib.hid hx
      have HD := Lib.hid hd
      have HXV := Lib.hid hxv
      have HXN := Lib.hid hxn
      have HVC := Lib.hid hvc
      have HSTEP := Lib.hid hstep
      have HIX := Lib.hid hix
      have HLOW := Lib.hid hlow
      clear hx hd hxv hxn hvc hstep hix hlow
      go_wp2_with (go_at_call 39; refine HVC.out.mono ?_; rintro e w1 ⟨rfl, hb1⟩)
      have hB1 := belowT hB hb1
      have hown1 := HOWN.out.keep hb1 hB.size
      have hxv1 := HXV.out.keep hb1
      have HOWN1 := Lib.hid hown1
      have HXV1 := Lib.hid hxv1
      have HB1 := Lib.hid hb1
      clear hown1 hxv1 hb1
      clear hB HOWN HXV HVC
      go_loopg [6, 20] n (fun g kp jj wr => ∃ (j : Nat) (kb : Bool), j ≤ n ∧ g = n - j ∧ jj = .int .i64 j ∧ kp = .bool kb ∧ Below w1.heap.size w1 wr ∧ (ix && !anyL (rhitF k x) 0 l) = (kb && !anyL (rhitF k x) j (l.drop j)))
      case atStart => exact ⟨0, ix, Nat.zero_le _, by omega, rfl, rfl, Below.refl _ _, rfl⟩
      case round =>
        obtain ⟨j, kb, hj, hgi, rfl, rfl, hBi, hFI⟩ := hrel
        have HGI := Lib.hid hgi
        have HFI := Lib.hid hFI
        clear hgi hFI
        by_cases hltj : j < n
        · obtain ⟨b', off', yA, yn, yc, y, hAA, c0', hyn, hym, hyv, hy, hdj⟩ := (HV.out.keep (belowT hB1 hBi)).at hltj
          injection hAA with hAA
          injection hAA with hA1 hA2 hA3
          subst hA1 hA2
          clear hA3
          have hbr' : b < wr.heap.size := lt_of_cell c0'
          have hvy := is_calls _ y _ hyv
          have hcy := fun (W : World) (hb : Below wr.heap.size wr W) => rContains_calls _ _ x y W ((HXV1.out.keep hBi).keep hb) (hyv.keep hb)
          have hst : anyL (rhitF k x) j (l.drop j) = (rhitF k x j y || anyL (rhitF k x) (j + 1) (l.drop (j + 1))) := by rw [hdj, anyL]
          have hhit : rhitF k x j y = (isF y && ContainsF x y && (decide ((yn : Int) < (xn : Int)) || (decide ((yn : Int) = (xn : Int)) && decide ((j : Int) < (k : Int))))) := by
            have e1 := HXN.out
            have e2 : decide (y.length = x.length) = decide ((yn : Int) = (xn : Int)) := by rw [decide_eq_decide]; omega
            have e3 : decide (y.length < x.length) = decide ((yn : Int) < (xn : Int)) := by rw [decide_eq_decide]; omega
            have e4 : decide (j < k) = decide ((j : Int) < (k : Int)) := by rw [decide_eq_decide]; omega
            rw [rhitF, e2, e3, e4]
          generalize ContainsF x y = tc at hcy hhit
          generalize isF y = ty at hvy hhit
          have HY := Lib.hid hy
          have HDJ := Lib.hid hdj
          have HYV := Lib.hid hyv
          have HYN := Lib.hid hyn
          have HVY := Lib.hid hvy
          have HCY := Lib.hid hcy
          have HST := Lib.hid hst
          have HHIT := Lib.hid hhit
          clear hy hdj hyv hyn hvy hcy hst hhit
          cases ty
          · have hnext := rstep_next (B := anyL (rhitF k x) (j + 1) (l.drop (j + 1))) HFI.out (by rw [HST.out, HHIT.out]; simp)
            have HNEXT := Lib.hid hnext
            clear hnext
            go_wp2_with (go_at_call 39; refine HVY.out.mono ?_; rintro e w2 ⟨rfl, hb2⟩)
            go_roundg (n - (j + 1))
            case measure => have := HGI.out; omega
            case rel => exact ⟨j + 1, kb, by omega, rfl, by go_num, rfl, (belowT hBi hb2), HNEXT.out⟩
          · cases tc
            · have hnext := rstep_next (B := anyL (rhitF k x) (j + 1) (l.drop (j + 1))) HFI.out (by rw [HST.out, HHIT.out]; simp)
              have HNEXT := Lib.hid hnext
              clear hnext
              go_wp2_with (first | (go_at_call 39; refine HVY.out.mono ?_; rintro e w2 ⟨rfl, hb2⟩) | (go_at_call 17; refine (HCY.out _ hb2).mono ?_; rintro e w3 ⟨rfl, hb3⟩))
              go_roundg (n - (j + 1))
              case measure => have := HGI.out; omega
              case rel => exact ⟨j + 1, kb, by omega, rfl, by go_num, rfl, (belowT hBi (belowT hb2 hb3)), HNEXT.out⟩
            · by_cases hh1 : (yn : Int) < xn
              · have hnext := rstep_hit (B := anyL (rhitF k x) (j + 1) (l.drop (j + 1))) HFI.out (by rw [HST.out, HHIT.out]; simp [hh1])
                have HNEXT := Lib.hid hnext
                clear hnext
                go_wp2_with (first | (go_at_call 39; refine HVY.out.mono ?_; rintro e w2 ⟨rfl, hb2⟩) | (go_at_call 17; refine (HCY.out _ hb2).mono ?_; rintro e w3 ⟨rfl, hb3⟩))
                go_roundg (n - (j + 1))
                case measure => have := HGI.out; omega
                case rel => exact ⟨j + 1, false, by omega, rfl, by go_num, rfl, (belowT hBi (belowT hb2 hb3)), HNEXT.out⟩
              · by_cases hh2 : (yn : Int) = xn
                · by_cases hh3 : (j : Int) < k
                  · have hnext := rstep_hit (B := anyL (rhitF k x) (j + 1) (l.drop (j + 1))) HFI.out (by rw [HST.out, HHIT.out]; simp [hh2, hh3])
                    have HNEXT := Lib.hid hnext
                    clear hnext
                    go_wp2_with (first | (go_at_call 39; refine HVY.out.mono ?_; rintro e w2 ⟨rfl, hb2⟩) | (go_at_call 17; refine (HCY.out _ hb2).mono ?_; rintro e w3 ⟨rfl, hb3⟩))
                    go_roundg (n - (j + 1))
                    case measure => have := HGI.out; omega
                    case rel => exact ⟨j + 1, false, by omega, rfl, by go_num, rfl, (belowT hBi (belowT hb2 hb3)), HNEXT.out⟩
                  · have hnext := rstep_next (B := anyL (rhitF k x) (j + 1) (l.drop (j + 1))) HFI.out (by rw [HST.out, HHIT.out, decide_eq_false hh1, decide_eq_false hh3]; simp)
                    have HNEXT := Lib.hid hnext
                    clear hnext
                    go_wp2_with (first | (go_at_call 39; refine HVY.out.mono ?_; rintro e w2 ⟨rfl, hb2⟩) | (go_at_call 17; refine (HCY.out _ hb2).mono ?_; rintro e w3 ⟨rfl, hb3⟩))
                    go_roundg (n - (j + 1))
                    case measure => have := HGI.out; omega
                    case rel => exact ⟨j + 1, kb, by omega, rfl, by go_num, rfl, (belowT hBi (belowT hb2 hb3)), HNEXT.out⟩
                · have hnext := rstep_next (B := anyL (rhitF k x) (j + 1) (l.drop (j + 1))) HFI.out (by rw [HST.out, HHIT.out, decide_eq_false hh1, decide_eq_false hh2]; simp)
                  have HNEXT := Lib.hid hnext
                  clear hnext
                  go_wp2_with (first | (go_at_call 39; refine HVY.out.mono ?_; rintro e w2 ⟨rfl, hb2⟩) | (go_at_call 17; refine (HCY.out _ hb2).mono ?_; rintro e w3 ⟨rfl, hb3⟩))
                  go_roundg (n - (j + 1))
                  case measure => have := HGI.out; omega
                  case rel => exact ⟨j + 1, kb, by omega, rfl, by go_num, rfl, (belowT hBi (belowT hb2 hb3)), HNEXT.out⟩
        · have hres : (ix && !anyL (rhitF k x) 0 l) = kb := by rw [HFI.out, List.drop_eq_nil_of_le (by have := HN.out; omega)]; simp [anyL]
          have hown2 := HOWN1.out.keep hBi hB1.size
          have hB2 := belowT hB1 hBi
          cases kb
          · have hnext : rminF l = acc ++ rminL l (k + 1) (l.drop (k + 1)) := by rw [HSTEP.out, hres]; rfl
            have HNEXT := Lib.hid hnext
            have HRES := Lib.hid hres
            have HOWN2 := Lib.hid hown2
            clear hnext hres hown2
            go_wp2_with fail
            go_roundg (n - (k + 1))
            case measure => have := HG.out; omega
            case rel => exact ⟨k + 1, acc, by omega, rfl, by go_num, hB2, by have := HACC.out; omega, HOWN2.out, HNEXT.out⟩
          · have hnext : rminF l = (acc ++ [x]) ++ rminL l (k + 1) (l.drop (k + 1)) := by rw [HSTEP.out, hres]; simp
            have hent : EntryAt wr w.heap.size (.slice xA xn xc) x := .inl (HLOW.out.below hB2)
            have HNEXT := Lib.hid hnext
            have HRES := Lib.hid hres
            have HOWN2 := Lib.hid hown2
            have HENT := Lib.hid hent
            clear hnext hres hown2 hent
            go_wp2_with (at_builtin; refine wpList_append_list rfl (.tmp 53) (.tmp 55) rfl _ w.heap.size _ acc xA xn xc x rfl HOWN2.out HENT.out rfl (by have := HACC.out; omega) hB2.size ?_; intro v5 w5 hown5 hg5 hge5)
            go_roundg (n - (k + 1))
            case measure => have := HG.out; omega
            case rel => exact ⟨k + 1, acc ++ [x], by omega, rfl, by go_num, (belowA hB2 _).grown hg5 (by have := hB2.size; simp; omega) hge5, by have := HACC.out; simp; omega, hown5, HNEXT.out⟩
    · have hfin : rminF l = acc := by rw [HF.out, List.drop_eq_nil_of_le (by have := HN.out; omega), rminL, List.append_nil]
      have HFIN := Lib.hid hfin
      clear hfin
      go_wp2
      go_ret
      exact ⟨_, rfl, by rw [HFIN.out]; exact HOWN.out, hB⟩
end Go.Proofs.Ytpogmkplmcedlaa
