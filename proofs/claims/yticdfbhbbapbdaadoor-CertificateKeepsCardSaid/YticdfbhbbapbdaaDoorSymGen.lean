/- slices.symMergeCmpFunc over nogoods: the cut, the rotation and the two merges. -/
import Derived.Test.YticdfbhbbapbdaaDoorSymMerge
namespace Go.Proofs.YticdfbhbbapbdaaDoor
open Go.RowKit

abbrev symArgs (g cap N a m b : Nat) : Array Value := #[.slice (some ⟨g, 0, none⟩) N cap, .int .i64 a, .int .i64 m, .int .i64 b, cmpV]

set_option maxHeartbeats 16000000 in
set_option maxRecDepth 100000 in
theorem sym_gen1 (o : Ord ltI) (g cap N a m b : Nat) (f : Nat → Item) (w : World) (h : RowI w g cap N f) (hgd : GoodI w g N f) (ham2 : a + 1 < m) (hmb2 : m + 1 < b) (hb : b ≤ N) (hN : N ≤ 100000) (hs1 : SortedOn ltI f a m) (hs2 : SortedOn ltI f m b)
    (hmm : (a + b) / 2 < m)
    (ih : ∀ (a' m' b' : Nat) (f' : Nat → Item) (w' : World), b' - a' < b - a → a' < m' → m' < b' → b' ≤ N → RowI w' g cap N f' → GoodI w' g N f' → SortedOn ltI f' a' m' → SortedOn ltI f' m' b' → Calls Tryd.prog 76 (symArgs g cap N a' m' b') w' fun e w'' => e = .returned (.tuple #[]) ∧ Sorted w' w'' g cap N a' b' f') :
    Calls Tryd.prog 76 #[.slice (some ⟨g, 0, none⟩) N cap, .int .i64 a, .int .i64 m, .int .i64 b, cmpV] w fun e w' => e = .returned (.tuple #[]) ∧ Sorted w w' g cap N a b f := by
  have hd1 : ((m : Int) - a == 1) = false := by simp; omega
  have hd2 : ((b : Int) - m == 1) = false := by simp; omega
  obtain ⟨mid, hmid⟩ : ∃ mid, mid = (a + b) / 2 := ⟨_, rfl⟩
  rw [← hmid] at hmm
  obtain ⟨p, hp⟩ : ∃ p, p = mid + m - 1 := ⟨_, rfl⟩
  have hmidI : ((a : Int) + b) / 2 = (mid : Int) := by omega
  have hnI : (mid : Int) + m = ((mid + m : Nat) : Int) := by omega
  have hpI : (mid : Int) + m - 1 = (p : Int) := by omega
  have ham : a < m := by omega
  have hmd1 : 2 * mid ≤ a + b := by omega
  have hmd2 : a + b ≤ 2 * mid + 1 := by omega
  have hp1 : p + 1 ≤ mid + m := by omega
  have hp2 : mid + m ≤ p + 1 := by omega
  unfold symArgs cmpV at ih
  unfold cmpV
  have HR := Lib.hid h
  have HGD := Lib.hid hgd
  have HO := Lib.hid o
  have HS1 := Lib.hid hs1
  have HS2 := Lib.hid hs2
  have IH := Lib.hid ih
  have HMID := Lib.hid hmid
  have HPP := Lib.hid hp
  clear h hgd o hs1 hs2 ih hmid hp
  have hloI : (mid : Int) + m - b = ((mid + m - b : Nat) : Int) := by omega
  have hlo1 : b ≤ mid + m := by omega
  have HLOI := Lib.hid hloI
  clear hloI
  go_enter Tryd.func76, Tryd.ntmps76
  have HMIDI := Lib.hid hmidI
  have HNI := Lib.hid hnI
  have HPI := Lib.hid hpI
  clear hmidI hnI hpI
  go_upto_region 25 with fail
  rw [HMIDI.out]
  go_wp2_with fail
  try rw [HLOI.out]
  rw [HPI.out]
  go_loopg [20, 21] (mid - (mid + m - b)) (fun gh iv jv wr => ∃ (s r : Nat), mid + m - b ≤ s ∧ s ≤ r ∧ r ≤ mid ∧ gh = r - s ∧ iv = .int .i64 s ∧ jv = .int .i64 r ∧ RowI wr g cap N f ∧ w.grownBy wr (some g) ∧ (mid + m - b < s → ltI (f (p - (s - 1))) (f (s - 1)) = false) ∧ (r < mid → ltI (f (p - r)) (f r) = true))
  case atStart => exact ⟨mid + m - b, mid, Nat.le_refl _, by omega, Nat.le_refl _, rfl, rfl, rfl, HR.out, World.grownBy.refl _ _, fun h => by omega, fun h => by omega⟩
  case round =>
    obtain ⟨s, r, hs1, hsr, hr1, hg, rfl, rfl, hr, hgr, hl, hrr⟩ := hrel
    have hgdr := HGD.out.keep HR.out hr hgr (Within.refl a b f) hb
    by_cases hlt : s < r
    · as_aux_lemma =>
        obtain ⟨c, hc⟩ : ∃ c, c = (s + r) / 2 := ⟨_, rfl⟩
        have hc2 : ((s : Int) + r) / 2 = (c : Int) := by omega
        have hc3 : s ≤ c ∧ c < r := by omega
        obtain ⟨hsc, hcr⟩ := hc3
        have hcN : c < N := by omega
        have hpN : p - c < N := by omega
        have hpc : (p : Int) - c = ((p - c : Nat) : Int) := by omega
        have hpc0 : 0 ≤ (p : Int) - c := by omega
        have hpcN : (p : Int) - c < N := by omega
        have hpcT : ((p : Int) - c).toNat = p - c := by omega
        have hcp : c ≤ p := by omega
        have hcpI : (c : Int) ≤ p := by omega
        have hcpN : p < N + c := by omega
        have hcpN2 : p < c + N := by omega
        have hcpNI : (p : Int) < (N : Int) + c := by omega
        have hpcw : IntKind.i64.wrap ((p : Int) - c) = (p : Int) - c := by rw [IntKind.wrap_i64]; omega
        have HG := Lib.hid hg
        have HRR := Lib.hid hr
        have HGR := Lib.hid hgr
        have HL := Lib.hid hl
        have HRT := Lib.hid hrr
        have HGDR := Lib.hid hgdr
        have HC := Lib.hid hc
        have HC2 := Lib.hid hc2
        have HPC := Lib.hid hpc
        clear hg hr hgr hl hrr hgdr hc hc2 hpc
        go_upto_region 35 with fail
        rw [HC2.out]
        obtain ⟨c0, c1⟩ := HRR.out.cell (k := p - c) (by omega)
        obtain ⟨d0, d1⟩ := HRR.out.cell (k := c) (by omega)
        have hcm := HGDR.out.cmp (i := p - c) (j := c) (by omega) (by omega) wr.drew (Below.refl _ _).drew
        have hlt2 : ltI (f (p - c)) (f (c)) = decide (cmpN (f (p - c)).2 (f (c)).2 < 0) := rfl
        generalize cmpN (f (p - c)).2 (f (c)).2 = cc at hcm hlt2
        have HCM := Lib.hid hcm
        have HLT2 := Lib.hid hlt2
        clear hcm hlt2
        go_cut [171] (fun s wx => s = .bool (!decide (cc < 0)) ∧ Below wr.heap.size wr wx)
        case first =>
          go_region_held3 (fun w' => w'.cell? ⟨g, (p - c) * 2, none⟩ = some (.slice (f (p - c)).1.1 (f (p - c)).1.2.1 (f (p - c)).1.2.2) ∧ w'.cell? ⟨g, (p - c) * 2 + 1, none⟩ = some (.int .i64 (f (p - c)).2.2) ∧ w'.cell? ⟨g, (c) * 2, none⟩ = some (.slice (f (c)).1.1 (f (c)).1.2.1 (f (c)).1.2.2) ∧ w'.cell? ⟨g, (c) * 2 + 1, none⟩ = some (.int .i64 (f (c)).2.2))
            (first | exact ⟨r0, r1, r2, r3⟩ | exact ⟨c0, c1, d0, d1⟩)
            (first
              | (go_at_call 45; refine HCM.out.mono ?_; rintro e w1 ⟨rfl, hb1⟩; have r0 := kept hb1 c0; have r1 := kept hb1 c1; have r2 := kept hb1 d0; have r3 := kept hb1 d1; have HB1 : Hid (Below wr.heap.size wr w1) := belowT ((Below.refl _ _).drew) hb1; clear hb1)
              | fail)
          all_goals (go_wp2_with fail; go_meet; exact ⟨rfl, HB1.out⟩)
        case rest =>
          as_aux_lemma =>
            obtain ⟨t, ht⟩ : ∃ t, (!decide (cc < 0)) = t := ⟨_, rfl⟩
            rw [ht] at hcut
            obtain ⟨rfl, hB1⟩ := hcut
            have hr1' := HRR.out.keep hB1
            have hgr1 : w.grownBy wc (some g) := World.grownBy.trans HGR.out (grown_of_below hB1 _)
            cases t
            · have hcc : cc < 0 := by simpa using ht
              clear ht
              have hl1 : ltI (f (p - c)) (f c) = true := by rw [HLT2.out]; simpa using hcc
              clear hcc
              have HR1 := Lib.hid hr1'
              have HGR1 := Lib.hid hgr1
              have HL1 := Lib.hid hl1
              clear hr1' hgr1 hl1
              clear hB1
              go_wp2_with fail
              go_roundg (c - s)
              case measure => have := HG.out; omega
              case rel => exact ⟨s, c, hs1, hsc, by omega, rfl, rfl, rfl, HR1.out, HGR1.out, HL.out, fun _ => HL1.out⟩
            · have hcc : ¬ cc < 0 := by simpa using ht
              clear ht
              have hl1 : ltI (f (p - (c + 1 - 1))) (f (c + 1 - 1)) = false := by rw [show c + 1 - 1 = c by omega, HLT2.out]; simpa using hcc
              clear hcc
              have HR1 := Lib.hid hr1'
              have HGR1 := Lib.hid hgr1
              have HL1 := Lib.hid hl1
              clear hr1' hgr1 hl1
              clear hB1
              go_wp2_with fail
              go_roundg (r - (c + 1))
              case measure => have := HG.out; omega
              case rel => exact ⟨c + 1, r, by omega, by omega, hr1, rfl, by go_num, rfl, HR1.out, HGR1.out, fun _ => HL1.out, HRT.out⟩
    · as_aux_lemma =>
        obtain rfl : s = r := by omega
        obtain ⟨e, he⟩ : ∃ e, e = mid + m - s := ⟨_, rfl⟩
        have heI : (mid : Int) + m - s = (e : Int) := by omega
        have hcut' := sym_cut HO.out (mid := mid) (s := s) (e := e) HS1.out HS2.out ham (by omega) (by omega) (by omega) (by omega) (by omega)
          (fun h1 h2 => by have := hl (by omega); rwa [show p - (s - 1) = e by omega] at this)
          (fun h1 h2 => by have := hrr (by omega); rwa [show p - s = e - 1 by omega] at this)
        have hwn := (rot_within f s m e (by omega) (by omega)).mono (show a ≤ s by omega) (show e ≤ b by omega)
        have hrot := fun (h1 : s < m) (h2 : m < e) => rotate_calls g cap N s m e (.func (.func 45) #[] #[]) f wr hr h1 h2 (by omega) hN
        have hrl := rot_left f m e
        have hrr' := rot_right f s m
        have hsm : s ≤ mid := by omega
        have hme : mid ≤ e := by omega
        have hsm' : s ≤ m := by omega
        have hem : m ≤ e := by omega
        have heb : e ≤ b := by omega
        have has : a ≤ s := by omega
        have hse : s + e = mid + m := by omega
        have HG := Lib.hid hg
        have HRR := Lib.hid hr
        have HGR := Lib.hid hgr
        have HL := Lib.hid hl
        have HRT := Lib.hid hrr
        have HGDR := Lib.hid hgdr
        have HE := Lib.hid he
        have HEI := Lib.hid heI
        have HCUT := Lib.hid hcut'
        have HWN := Lib.hid hwn
        have HROT := Lib.hid hrot
        have HRL := Lib.hid hrl
        have HRRR := Lib.hid hrr'
        have HSE := Lib.hid hse
        clear hg hr hgr hl hrr hgdr he heI hcut' hwn hrot hrl hrr' hse
        go_upto_region 39 with fail
        rw [HEI.out]
        obtain ⟨t, ht⟩ : ∃ t, (decide (s < m) && decide (m < e)) = t := ⟨_, rfl⟩
        have HTX := Lib.hid ht
        clear ht
        go_cut [185] (fun z wx => z = .bool t ∧ wx = wr)
        case first =>
          by_cases x1 : s < m
          · by_cases x2 : m < e
            · go_wp2_with fail
              go_meet
              exact ⟨by rw [← HTX.out]; simp [x1, x2], rfl⟩
            · go_wp2_with fail
              go_meet
              exact ⟨by rw [← HTX.out]; simp [x2], rfl⟩
          · go_wp2_with fail
            go_meet
            exact ⟨by rw [← HTX.out]; simp [x1], rfl⟩
        case rest =>
        obtain ⟨rfl, rfl⟩ := hcut
        obtain ⟨wr, rfl⟩ : ∃ wr : World, wr = wc := ⟨_, rfl⟩
        have ht := HTX.out
        clear HTX
        go_upto_if 185 with fail
        go_cut [] (fun wx => RowI wx g cap N (rot f s m e) ∧ PermF N f (rot f s m e) ∧ w.grownBy wx (some g))
        case first =>
          as_aux_lemma =>
            cases t
            · have hid : rot f s m e = f := by
                simp only [Bool.and_eq_false_iff, decide_eq_false_iff_not] at ht
                rcases ht with ht | ht
                · rw [show s = m by omega]; exact HRL.out
                · rw [show e = m by omega]; exact HRRR.out
              have HIDE := Lib.hid hid
              have HT := Lib.hid ht
              clear hid ht
              go_wp2_with fail
              go_meet
              rw [HIDE.out]
              exact ⟨HRR.out, PermF.refl _ _, HGR.out⟩
            · simp only [Bool.and_eq_true, decide_eq_true_eq] at ht
              have hro := HROT.out ht.1 ht.2
              have HRO := Lib.hid hro
              have HT := Lib.hid ht
              clear hro ht
              go_wp2_with (go_at_call 86; refine HRO.out.mono ?_; rintro e' w1 ⟨rfl, hr1, hp1, hg1⟩)
              go_meet
              exact ⟨hr1, hp1, World.grownBy.trans HGR.out hg1⟩
        case rest =>
          as_aux_lemma =>
            obtain ⟨hra, hpa, hga⟩ := hcut
            have hgda := HGD.out.keep HR.out hra hga HWN.out hb
            obtain ⟨wa, rfl⟩ : ∃ wa : World, wa = wc := ⟨_, rfl⟩
            obtain ⟨hf, hhf⟩ : ∃ hf, hf = rot f s m e := ⟨_, rfl⟩
            have hcuts := HCUT.out
            have hwnA := HWN.out
            rw [← hhf] at hra hpa hgda hcuts hwnA
            obtain ⟨q1, q2, q3, q4, q5⟩ := hcuts
            have hc1 := fun (h1 : a < s) (h2 : s < mid) => IH.out a s mid hf wa (by omega) h1 h2 (by omega) hra hgda q1 q2
            have HRA := Lib.hid hra
            have HPA := Lib.hid hpa
            have HGA := Lib.hid hga
            have HGDA := Lib.hid hgda
            have HHF := Lib.hid hhf
            have Q1 := Lib.hid q1
            have Q2 := Lib.hid q2
            have Q3 := Lib.hid q3
            have Q4 := Lib.hid q4
            have Q5 := Lib.hid q5
            have HC1 := Lib.hid hc1
            have HWNA := Lib.hid hwnA
            have HT0 := Lib.hid ht
            clear hra hpa hga hgda hhf q1 q2 q3 q4 q5 hc1 hwnA ht
            clear HRR HGR HL HRT HGDR HROT HRL HRRR HCUT HWN
            go_upto_region 41 with fail
            obtain ⟨t, ht⟩ : ∃ t, (decide (a < s) && decide (s < mid)) = t := ⟨_, rfl⟩
            have HTX := Lib.hid ht
            clear ht
            go_cut [199] (fun z wx => z = .bool t ∧ wx = wa)
            case first =>
              by_cases x1 : a < s
              · by_cases x2 : s < mid
                · go_wp2_with fail
                  go_meet
                  exact ⟨by rw [← HTX.out]; simp [x1, x2], rfl⟩
                · go_wp2_with fail
                  go_meet
                  exact ⟨by rw [← HTX.out]; simp [x2], rfl⟩
              · go_wp2_with fail
                go_meet
                exact ⟨by rw [← HTX.out]; simp [x1], rfl⟩
            case rest =>
            obtain ⟨rfl, rfl⟩ := hcut
            obtain ⟨wa, rfl⟩ : ∃ wa : World, wa = wc := ⟨_, rfl⟩
            have ht := HTX.out
            clear HTX
            go_upto_if 199 with fail
            go_cut [] (fun wx => ∃ f1, RowI wx g cap N f1 ∧ PermF N hf f1 ∧ Within a mid hf f1 ∧ SortedOn ltI f1 a mid ∧ wa.grownBy wx (some g))
            case first =>
              as_aux_lemma =>
                cases t
                · have hso : SortedOn ltI hf a mid := by
                    simp only [Bool.and_eq_false_iff, decide_eq_false_iff_not] at ht
                    rcases ht with ht | ht
                    · have := Q2.out; rwa [show s = a by omega] at this
                    · have := Q1.out; rwa [show s = mid by omega] at this
                  have HSO := Lib.hid hso
                  have HT := Lib.hid ht
                  clear hso ht
                  go_wp2_with fail
                  go_meet
                  exact ⟨hf, HRA.out, PermF.refl _ _, Within.refl _ _ _, HSO.out, World.grownBy.refl _ _⟩
                · simp only [Bool.and_eq_true, decide_eq_true_eq] at ht
                  have hro := HC1.out ht.1 ht.2
                  have HRO := Lib.hid hro
                  have HT := Lib.hid ht
                  clear hro ht
                  go_wp2_with (go_at_call 76; refine HRO.out.mono ?_; rintro e' w1 ⟨rfl, f1, s1, s2, s3, s4, s5⟩)
                  go_meet
                  exact ⟨f1, s1, s2, s3, s4, s5⟩
            case rest =>
              as_aux_lemma =>
                obtain ⟨f1, hr1, hp1, hw1, hs1, hg1⟩ := hcut
                have hgd1 := HGDA.out.keep HRA.out hr1 hg1 hw1 (by omega)
                obtain ⟨wb, rfl⟩ : ∃ wb : World, wb = wc := ⟨_, rfl⟩
                have q3' := Q3.out.off hw1 (.inr (Nat.le_refl _))
                have q4' := Q4.out.off hw1 (.inr hme)
                have hc2 := fun (h1 : mid < e) (h2 : e < b) => IH.out mid e b f1 wb (by omega) h1 h2 hb hr1 hgd1 q3' q4'
                have HR1 := Lib.hid hr1
                have HP1 := Lib.hid hp1
                have HW1 := Lib.hid hw1
                have HSO1 := Lib.hid hs1
                have HG1 := Lib.hid hg1
                have HGD1 := Lib.hid hgd1
                have Q3' := Lib.hid q3'
                have Q4' := Lib.hid q4'
                have HC2 := Lib.hid hc2
                have HT1 := Lib.hid ht
                clear hr1 hp1 hw1 hs1 hg1 hgd1 q3' q4' hc2 ht
                go_upto_region 43 with fail
                obtain ⟨t, ht⟩ : ∃ t, (decide (mid < e) && decide (e < b)) = t := ⟨_, rfl⟩
                have HTX := Lib.hid ht
                clear ht
                go_cut [213] (fun z wx => z = .bool t ∧ wx = wb)
                case first =>
                  by_cases x1 : mid < e
                  · by_cases x2 : e < b
                    · go_wp2_with fail
                      go_meet
                      exact ⟨by rw [← HTX.out]; simp [x1, x2], rfl⟩
                    · go_wp2_with fail
                      go_meet
                      exact ⟨by rw [← HTX.out]; simp [x2], rfl⟩
                  · go_wp2_with fail
                    go_meet
                    exact ⟨by rw [← HTX.out]; simp [x1], rfl⟩
                case rest =>
                obtain ⟨rfl, rfl⟩ := hcut
                obtain ⟨wb, rfl⟩ : ∃ wb : World, wb = wc := ⟨_, rfl⟩
                have ht := HTX.out
                clear HTX
                cases t
                · have hso : SortedOn ltI f1 mid b := by
                    simp only [Bool.and_eq_false_iff, decide_eq_false_iff_not] at ht
                    rcases ht with ht | ht
                    · have := Q4'.out; rwa [show e = mid by omega] at this
                    · have := Q3'.out; rwa [show e = b by omega] at this
                  have hfin := sym_join HW1.out (Within.refl mid b f1) HSO1.out hso Q5.out
                  have HSO := Lib.hid hso
                  have HT := Lib.hid ht
                  have HFIN := Lib.hid hfin
                  clear hso ht hfin
                  go_wp2_with fail
                  go_end0
                  exact ⟨rfl, f1, HR1.out, PermF.trans HPA.out HP1.out, Within.trans HWNA.out (HW1.out.mono (Nat.le_refl _) (by omega)), HFIN.out, World.grownBy.trans HGA.out HG1.out⟩
                · simp only [Bool.and_eq_true, decide_eq_true_eq] at ht
                  have hro := HC2.out ht.1 ht.2
                  have HRO := Lib.hid hro
                  have HT := Lib.hid ht
                  clear hro ht
                  go_wp2_with (go_at_call 76; refine HRO.out.mono ?_; rintro e' w1 ⟨rfl, f2, s1, s2, s3, s4, s5⟩)
                  go_end0
                  exact ⟨rfl, f2, s1, PermF.trans HPA.out (PermF.trans HP1.out s2), Within.trans HWNA.out (Within.trans (HW1.out.mono (Nat.le_refl _) (by omega)) (s3.mono (by omega) (Nat.le_refl _))), sym_join HW1.out s3 HSO1.out s4 Q5.out, World.grownBy.trans HGA.out (World.grownBy.trans HG1.out s5)⟩

set_option maxHeartbeats 16000000 in
set_option maxRecDepth 100000 in
theorem sym_gen2 (o : Ord ltI) (g cap N a m b : Nat) (f : Nat → Item) (w : World) (h : RowI w g cap N f) (hgd : GoodI w g N f) (ham2 : a + 1 < m) (hmb2 : m + 1 < b) (hb : b ≤ N) (hN : N ≤ 100000) (hs1 : SortedOn ltI f a m) (hs2 : SortedOn ltI f m b)
    (hmm : ¬ (a + b) / 2 < m)
    (ih : ∀ (a' m' b' : Nat) (f' : Nat → Item) (w' : World), b' - a' < b - a → a' < m' → m' < b' → b' ≤ N → RowI w' g cap N f' → GoodI w' g N f' → SortedOn ltI f' a' m' → SortedOn ltI f' m' b' → Calls Tryd.prog 76 (symArgs g cap N a' m' b') w' fun e w'' => e = .returned (.tuple #[]) ∧ Sorted w' w'' g cap N a' b' f') :
    Calls Tryd.prog 76 #[.slice (some ⟨g, 0, none⟩) N cap, .int .i64 a, .int .i64 m, .int .i64 b, cmpV] w fun e w' => e = .returned (.tuple #[]) ∧ Sorted w w' g cap N a b f := by
  have hd1 : ((m : Int) - a == 1) = false := by simp; omega
  have hd2 : ((b : Int) - m == 1) = false := by simp; omega
  obtain ⟨mid, hmid⟩ : ∃ mid, mid = (a + b) / 2 := ⟨_, rfl⟩
  rw [← hmid] at hmm
  obtain ⟨p, hp⟩ : ∃ p, p = mid + m - 1 := ⟨_, rfl⟩
  have hmidI : ((a : Int) + b) / 2 = (mid : Int) := by omega
  have hnI : (mid : Int) + m = ((mid + m : Nat) : Int) := by omega
  have hpI : (mid : Int) + m - 1 = (p : Int) := by omega
  have ham : a < m := by omega
  have hmd1 : 2 * mid ≤ a + b := by omega
  have hmd2 : a + b ≤ 2 * mid + 1 := by omega
  have hp1 : p + 1 ≤ mid + m := by omega
  have hp2 : mid + m ≤ p + 1 := by omega
  unfold symArgs cmpV at ih
  unfold cmpV
  have HR := Lib.hid h
  have HGD := Lib.hid hgd
  have HO := Lib.hid o
  have HS1 := Lib.hid hs1
  have HS2 := Lib.hid hs2
  have IH := Lib.hid ih
  have HMID := Lib.hid hmid
  have HPP := Lib.hid hp
  clear h hgd o hs1 hs2 ih hmid hp
  have HLOI : Hid ((N : Int) = N) := rfl
  go_enter Tryd.func76, Tryd.ntmps76
  have HMIDI := Lib.hid hmidI
  have HNI := Lib.hid hnI
  have HPI := Lib.hid hpI
  clear hmidI hnI hpI
  go_upto_region 25 with fail
  rw [HMIDI.out]
  go_wp2_with fail
  try rw [HLOI.out]
  rw [HPI.out]
  go_loopg [20, 21] (m - (a)) (fun gh iv jv wr => ∃ (s r : Nat), a ≤ s ∧ s ≤ r ∧ r ≤ m ∧ gh = r - s ∧ iv = .int .i64 s ∧ jv = .int .i64 r ∧ RowI wr g cap N f ∧ w.grownBy wr (some g) ∧ (a < s → ltI (f (p - (s - 1))) (f (s - 1)) = false) ∧ (r < m → ltI (f (p - r)) (f r) = true))
  case atStart => exact ⟨a, m, Nat.le_refl _, by omega, Nat.le_refl _, rfl, rfl, rfl, HR.out, World.grownBy.refl _ _, fun h => by omega, fun h => by omega⟩
  case round =>
    obtain ⟨s, r, hs1, hsr, hr1, hg, rfl, rfl, hr, hgr, hl, hrr⟩ := hrel
    have hgdr := HGD.out.keep HR.out hr hgr (Within.refl a b f) hb
    by_cases hlt : s < r
    · as_aux_lemma =>
        obtain ⟨c, hc⟩ : ∃ c, c = (s + r) / 2 := ⟨_, rfl⟩
        have hc2 : ((s : Int) + r) / 2 = (c : Int) := by omega
        have hc3 : s ≤ c ∧ c < r := by omega
        obtain ⟨hsc, hcr⟩ := hc3
        have hcN : c < N := by omega
        have hpN : p - c < N := by omega
        have hpc : (p : Int) - c = ((p - c : Nat) : Int) := by omega
        have hpc0 : 0 ≤ (p : Int) - c := by omega
        have hpcN : (p : Int) - c < N := by omega
        have hpcT : ((p : Int) - c).toNat = p - c := by omega
        have hcp : c ≤ p := by omega
        have hcpI : (c : Int) ≤ p := by omega
        have hcpN : p < N + c := by omega
        have hcpN2 : p < c + N := by omega
        have hcpNI : (p : Int) < (N : Int) + c := by omega
        have hpcw : IntKind.i64.wrap ((p : Int) - c) = (p : Int) - c := by rw [IntKind.wrap_i64]; omega
        have HG := Lib.hid hg
        have HRR := Lib.hid hr
        have HGR := Lib.hid hgr
        have HL := Lib.hid hl
        have HRT := Lib.hid hrr
        have HGDR := Lib.hid hgdr
        have HC := Lib.hid hc
        have HC2 := Lib.hid hc2
        have HPC := Lib.hid hpc
        clear hg hr hgr hl hrr hgdr hc hc2 hpc
        go_upto_region 35 with fail
        rw [HC2.out]
        obtain ⟨c0, c1⟩ := HRR.out.cell (k := p - c) (by omega)
        obtain ⟨d0, d1⟩ := HRR.out.cell (k := c) (by omega)
        have hcm := HGDR.out.cmp (i := p - c) (j := c) (by omega) (by omega) wr.drew (Below.refl _ _).drew
        have hlt2 : ltI (f (p - c)) (f (c)) = decide (cmpN (f (p - c)).2 (f (c)).2 < 0) := rfl
        generalize cmpN (f (p - c)).2 (f (c)).2 = cc at hcm hlt2
        have HCM := Lib.hid hcm
        have HLT2 := Lib.hid hlt2
        clear hcm hlt2
        go_cut [171] (fun s wx => s = .bool (!decide (cc < 0)) ∧ Below wr.heap.size wr wx)
        case first =>
          go_region_held3 (fun w' => w'.cell? ⟨g, (p - c) * 2, none⟩ = some (.slice (f (p - c)).1.1 (f (p - c)).1.2.1 (f (p - c)).1.2.2) ∧ w'.cell? ⟨g, (p - c) * 2 + 1, none⟩ = some (.int .i64 (f (p - c)).2.2) ∧ w'.cell? ⟨g, (c) * 2, none⟩ = some (.slice (f (c)).1.1 (f (c)).1.2.1 (f (c)).1.2.2) ∧ w'.cell? ⟨g, (c) * 2 + 1, none⟩ = some (.int .i64 (f (c)).2.2))
            (first | exact ⟨r0, r1, r2, r3⟩ | exact ⟨c0, c1, d0, d1⟩)
            (first
              | (go_at_call 45; refine HCM.out.mono ?_; rintro e w1 ⟨rfl, hb1⟩; have r0 := kept hb1 c0; have r1 := kept hb1 c1; have r2 := kept hb1 d0; have r3 := kept hb1 d1; have HB1 : Hid (Below wr.heap.size wr w1) := belowT ((Below.refl _ _).drew) hb1; clear hb1)
              | fail)
          all_goals (go_wp2_with fail; go_meet; exact ⟨rfl, HB1.out⟩)
        case rest =>
          as_aux_lemma =>
            obtain ⟨t, ht⟩ : ∃ t, (!decide (cc < 0)) = t := ⟨_, rfl⟩
            rw [ht] at hcut
            obtain ⟨rfl, hB1⟩ := hcut
            have hr1' := HRR.out.keep hB1
            have hgr1 : w.grownBy wc (some g) := World.grownBy.trans HGR.out (grown_of_below hB1 _)
            cases t
            · have hcc : cc < 0 := by simpa using ht
              clear ht
              have hl1 : ltI (f (p - c)) (f c) = true := by rw [HLT2.out]; simpa using hcc
              clear hcc
              have HR1 := Lib.hid hr1'
              have HGR1 := Lib.hid hgr1
              have HL1 := Lib.hid hl1
              clear hr1' hgr1 hl1
              clear hB1
              go_wp2_with fail
              go_roundg (c - s)
              case measure => have := HG.out; omega
              case rel => exact ⟨s, c, hs1, hsc, by omega, rfl, rfl, rfl, HR1.out, HGR1.out, HL.out, fun _ => HL1.out⟩
            · have hcc : ¬ cc < 0 := by simpa using ht
              clear ht
              have hl1 : ltI (f (p - (c + 1 - 1))) (f (c + 1 - 1)) = false := by rw [show c + 1 - 1 = c by omega, HLT2.out]; simpa using hcc
              clear hcc
              have HR1 := Lib.hid hr1'
              have HGR1 := Lib.hid hgr1
              have HL1 := Lib.hid hl1
              clear hr1' hgr1 hl1
              clear hB1
              go_wp2_with fail
              go_roundg (r - (c + 1))
              case measure => have := HG.out; omega
              case rel => exact ⟨c + 1, r, by omega, by omega, hr1, rfl, by go_num, rfl, HR1.out, HGR1.out, fun _ => HL1.out, HRT.out⟩
    · as_aux_lemma =>
        obtain rfl : s = r := by omega
        obtain ⟨e, he⟩ : ∃ e, e = mid + m - s := ⟨_, rfl⟩
        have heI : (mid : Int) + m - s = (e : Int) := by omega
        have hcut' := sym_cut HO.out (mid := mid) (s := s) (e := e) HS1.out HS2.out ham (by omega) (by omega) (by omega) (by omega) (by omega)
          (fun h1 h2 => by have := hl (by omega); rwa [show p - (s - 1) = e by omega] at this)
          (fun h1 h2 => by have := hrr (by omega); rwa [show p - s = e - 1 by omega] at this)
        have hwn := (rot_within f s m e (by omega) (by omega)).mono (show a ≤ s by omega) (show e ≤ b by omega)
        have hrot := fun (h1 : s < m) (h2 : m < e) => rotate_calls g cap N s m e (.func (.func 45) #[] #[]) f wr hr h1 h2 (by omega) hN
        have hrl := rot_left f m e
        have hrr' := rot_right f s m
        have hsm : s ≤ mid := by omega
        have hme : mid ≤ e := by omega
        have hsm' : s ≤ m := by omega
        have hem : m ≤ e := by omega
        have heb : e ≤ b := by omega
        have has : a ≤ s := by omega
        have hse : s + e = mid + m := by omega
        have HG := Lib.hid hg
        have HRR := Lib.hid hr
        have HGR := Lib.hid hgr
        have HL := Lib.hid hl
        have HRT := Lib.hid hrr
        have HGDR := Lib.hid hgdr
        have HE := Lib.hid he
        have HEI := Lib.hid heI
        have HCUT := Lib.hid hcut'
        have HWN := Lib.hid hwn
        have HROT := Lib.hid hrot
        have HRL := Lib.hid hrl
        have HRRR := Lib.hid hrr'
        have HSE := Lib.hid hse
        clear hg hr hgr hl hrr hgdr he heI hcut' hwn hrot hrl hrr' hse
        go_upto_region 39 with fail
        rw [HEI.out]
        obtain ⟨t, ht⟩ : ∃ t, (decide (s < m) && decide (m < e)) = t := ⟨_, rfl⟩
        have HTX := Lib.hid ht
        clear ht
        go_cut [185] (fun z wx => z = .bool t ∧ wx = wr)
        case first =>
          by_cases x1 : s < m
          · by_cases x2 : m < e
            · go_wp2_with fail
              go_meet
              exact ⟨by rw [← HTX.out]; simp [x1, x2], rfl⟩
            · go_wp2_with fail
              go_meet
              exact ⟨by rw [← HTX.out]; simp [x2], rfl⟩
          · go_wp2_with fail
            go_meet
            exact ⟨by rw [← HTX.out]; simp [x1], rfl⟩
        case rest =>
        obtain ⟨rfl, rfl⟩ := hcut
        obtain ⟨wr, rfl⟩ : ∃ wr : World, wr = wc := ⟨_, rfl⟩
        have ht := HTX.out
        clear HTX
        go_upto_if 185 with fail
        go_cut [] (fun wx => RowI wx g cap N (rot f s m e) ∧ PermF N f (rot f s m e) ∧ w.grownBy wx (some g))
        case first =>
          as_aux_lemma =>
            cases t
            · have hid : rot f s m e = f := by
                simp only [Bool.and_eq_false_iff, decide_eq_false_iff_not] at ht
                rcases ht with ht | ht
                · rw [show s = m by omega]; exact HRL.out
                · rw [show e = m by omega]; exact HRRR.out
              have HIDE := Lib.hid hid
              have HT := Lib.hid ht
              clear hid ht
              go_wp2_with fail
              go_meet
              rw [HIDE.out]
              exact ⟨HRR.out, PermF.refl _ _, HGR.out⟩
            · simp only [Bool.and_eq_true, decide_eq_true_eq] at ht
              have hro := HROT.out ht.1 ht.2
              have HRO := Lib.hid hro
              have HT := Lib.hid ht
              clear hro ht
              go_wp2_with (go_at_call 86; refine HRO.out.mono ?_; rintro e' w1 ⟨rfl, hr1, hp1, hg1⟩)
              go_meet
              exact ⟨hr1, hp1, World.grownBy.trans HGR.out hg1⟩
        case rest =>
          as_aux_lemma =>
            obtain ⟨hra, hpa, hga⟩ := hcut
            have hgda := HGD.out.keep HR.out hra hga HWN.out hb
            obtain ⟨wa, rfl⟩ : ∃ wa : World, wa = wc := ⟨_, rfl⟩
            obtain ⟨hf, hhf⟩ : ∃ hf, hf = rot f s m e := ⟨_, rfl⟩
            have hcuts := HCUT.out
            have hwnA := HWN.out
            rw [← hhf] at hra hpa hgda hcuts hwnA
            obtain ⟨q1, q2, q3, q4, q5⟩ := hcuts
            have hc1 := fun (h1 : a < s) (h2 : s < mid) => IH.out a s mid hf wa (by omega) h1 h2 (by omega) hra hgda q1 q2
            have HRA := Lib.hid hra
            have HPA := Lib.hid hpa
            have HGA := Lib.hid hga
            have HGDA := Lib.hid hgda
            have HHF := Lib.hid hhf
            have Q1 := Lib.hid q1
            have Q2 := Lib.hid q2
            have Q3 := Lib.hid q3
            have Q4 := Lib.hid q4
            have Q5 := Lib.hid q5
            have HC1 := Lib.hid hc1
            have HWNA := Lib.hid hwnA
            have HT0 := Lib.hid ht
            clear hra hpa hga hgda hhf q1 q2 q3 q4 q5 hc1 hwnA ht
            clear HRR HGR HL HRT HGDR HROT HRL HRRR HCUT HWN
            go_upto_region 41 with fail
            obtain ⟨t, ht⟩ : ∃ t, (decide (a < s) && decide (s < mid)) = t := ⟨_, rfl⟩
            have HTX := Lib.hid ht
            clear ht
            go_cut [199] (fun z wx => z = .bool t ∧ wx = wa)
            case first =>
              by_cases x1 : a < s
              · by_cases x2 : s < mid
                · go_wp2_with fail
                  go_meet
                  exact ⟨by rw [← HTX.out]; simp [x1, x2], rfl⟩
                · go_wp2_with fail
                  go_meet
                  exact ⟨by rw [← HTX.out]; simp [x2], rfl⟩
              · go_wp2_with fail
                go_meet
                exact ⟨by rw [← HTX.out]; simp [x1], rfl⟩
            case rest =>
            obtain ⟨rfl, rfl⟩ := hcut
            obtain ⟨wa, rfl⟩ : ∃ wa : World, wa = wc := ⟨_, rfl⟩
            have ht := HTX.out
            clear HTX
            go_upto_if 199 with fail
            go_cut [] (fun wx => ∃ f1, RowI wx g cap N f1 ∧ PermF N hf f1 ∧ Within a mid hf f1 ∧ SortedOn ltI f1 a mid ∧ wa.grownBy wx (some g))
            case first =>
              as_aux_lemma =>
                cases t
                · have hso : SortedOn ltI hf a mid := by
                    simp only [Bool.and_eq_false_iff, decide_eq_false_iff_not] at ht
                    rcases ht with ht | ht
                    · have := Q2.out; rwa [show s = a by omega] at this
                    · have := Q1.out; rwa [show s = mid by omega] at this
                  have HSO := Lib.hid hso
                  have HT := Lib.hid ht
                  clear hso ht
                  go_wp2_with fail
                  go_meet
                  exact ⟨hf, HRA.out, PermF.refl _ _, Within.refl _ _ _, HSO.out, World.grownBy.refl _ _⟩
                · simp only [Bool.and_eq_true, decide_eq_true_eq] at ht
                  have hro := HC1.out ht.1 ht.2
                  have HRO := Lib.hid hro
                  have HT := Lib.hid ht
                  clear hro ht
                  go_wp2_with (go_at_call 76; refine HRO.out.mono ?_; rintro e' w1 ⟨rfl, f1, s1, s2, s3, s4, s5⟩)
                  go_meet
                  exact ⟨f1, s1, s2, s3, s4, s5⟩
            case rest =>
              as_aux_lemma =>
                obtain ⟨f1, hr1, hp1, hw1, hs1, hg1⟩ := hcut
                have hgd1 := HGDA.out.keep HRA.out hr1 hg1 hw1 (by omega)
                obtain ⟨wb, rfl⟩ : ∃ wb : World, wb = wc := ⟨_, rfl⟩
                have q3' := Q3.out.off hw1 (.inr (Nat.le_refl _))
                have q4' := Q4.out.off hw1 (.inr hme)
                have hc2 := fun (h1 : mid < e) (h2 : e < b) => IH.out mid e b f1 wb (by omega) h1 h2 hb hr1 hgd1 q3' q4'
                have HR1 := Lib.hid hr1
                have HP1 := Lib.hid hp1
                have HW1 := Lib.hid hw1
                have HSO1 := Lib.hid hs1
                have HG1 := Lib.hid hg1
                have HGD1 := Lib.hid hgd1
                have Q3' := Lib.hid q3'
                have Q4' := Lib.hid q4'
                have HC2 := Lib.hid hc2
                have HT1 := Lib.hid ht
                clear hr1 hp1 hw1 hs1 hg1 hgd1 q3' q4' hc2 ht
                go_upto_region 43 with fail
                obtain ⟨t, ht⟩ : ∃ t, (decide (mid < e) && decide (e < b)) = t := ⟨_, rfl⟩
                have HTX := Lib.hid ht
                clear ht
                go_cut [213] (fun z wx => z = .bool t ∧ wx = wb)
                case first =>
                  by_cases x1 : mid < e
                  · by_cases x2 : e < b
                    · go_wp2_with fail
                      go_meet
                      exact ⟨by rw [← HTX.out]; simp [x1, x2], rfl⟩
                    · go_wp2_with fail
                      go_meet
                      exact ⟨by rw [← HTX.out]; simp [x2], rfl⟩
                  · go_wp2_with fail
                    go_meet
                    exact ⟨by rw [← HTX.out]; simp [x1], rfl⟩
                case rest =>
                obtain ⟨rfl, rfl⟩ := hcut
                obtain ⟨wb, rfl⟩ : ∃ wb : World, wb = wc := ⟨_, rfl⟩
                have ht := HTX.out
                clear HTX
                cases t
                · have hso : SortedOn ltI f1 mid b := by
                    simp only [Bool.and_eq_false_iff, decide_eq_false_iff_not] at ht
                    rcases ht with ht | ht
                    · have := Q4'.out; rwa [show e = mid by omega] at this
                    · have := Q3'.out; rwa [show e = b by omega] at this
                  have hfin := sym_join HW1.out (Within.refl mid b f1) HSO1.out hso Q5.out
                  have HSO := Lib.hid hso
                  have HT := Lib.hid ht
                  have HFIN := Lib.hid hfin
                  clear hso ht hfin
                  go_wp2_with fail
                  go_end0
                  exact ⟨rfl, f1, HR1.out, PermF.trans HPA.out HP1.out, Within.trans HWNA.out (HW1.out.mono (Nat.le_refl _) (by omega)), HFIN.out, World.grownBy.trans HGA.out HG1.out⟩
                · simp only [Bool.and_eq_true, decide_eq_true_eq] at ht
                  have hro := HC2.out ht.1 ht.2
                  have HRO := Lib.hid hro
                  have HT := Lib.hid ht
                  clear hro ht
                  go_wp2_with (go_at_call 76; refine HRO.out.mono ?_; rintro e' w1 ⟨rfl, f2, s1, s2, s3, s4, s5⟩)
                  go_end0
                  exact ⟨rfl, f2, s1, PermF.trans HPA.out (PermF.trans HP1.out s2), Within.trans HWNA.out (Within.trans (HW1.out.mono (Nat.le_refl _) (by omega)) (s3.mono (by omega) (Nat.le_refl _))), sym_join HW1.out s3 HSO1.out s4 Q5.out, World.grownBy.trans HGA.out (World.grownBy.trans HG1.out s5)⟩
end Go.Proofs.YticdfbhbbapbdaaDoor
