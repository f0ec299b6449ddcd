/- stratagemlaw31.CheckerOrders returns true for every input. No condition beyond the row's own. -/
import Derived.Test.YtcpajbglcgbolaaGreatB5
import Derived.Test.YtcpajbglcgbolaaGreatB3
import Derived.Test.YtcpajbglcgbolaaGreatB2
import Derived.Test.YtcpajbglcgbolaaGreatB1
import Derived.Test.YtcpajbglcgbolaaGreatB4
import Derived.Deep.Slices
import Derived.Deep.Fields
import Derived.ChangeSame
import Derived.SizedLaws
import Derived.Lib.SmallJoins
import Derived.Below
import Derived.OpenShut
import Derived.Carry
import Derived.Test.YtcpajbglcgbolaaGreatRows
import Derived.Deep.DeepHandedRow
import Derived.Lib.LaidTab
namespace Go.Proofs.YtcpajbglcgbolaaGreat
open Go.RowKit

theorem sym_calls (o : Ord ltI) (g cap N : Nat) (hN : N ≤ 100000) : ∀ (d a m b : Nat) (f : Nat → Item) (w : World), b - a ≤ d → a < m → m < b → b ≤ N → RowI w g cap N f → GoodI w g N f → SortedOn ltI f a m → SortedOn ltI f m b →
    Calls Tryz.prog 83 (symArgs g cap N a m b) w fun e w' => e = .returned (.tuple #[]) ∧ Sorted w w' g cap N a b f
  | 0, a, m, b, f, w, hd, ham, hmb, _, _, _, _, _ => by omega
  | d + 1, a, m, b, f, w, hd, ham, hmb, hb, hr, hg, h1, h2 => by
    by_cases e1 : m = a + 1
    · subst e1
      have := sym_left o g cap N a b f w hr hg hmb hb hN h2
      rw [show (a : Int) + 1 = ((a + 1 : Nat) : Int) by omega] at this
      exact this
    · by_cases e2 : b = m + 1
      · subst e2
        have := sym_right o g cap N a m f w hr hg (by omega) hb hN h1
        rw [show (m : Int) + 1 = ((m + 1 : Nat) : Int) by omega] at this
        exact this
      · have ih : ∀ (a' m' b' : Nat) (f' : Nat → Item) (w' : World), b' - a' < b - a → a' < m' → m' < b' → b' ≤ N → RowI w' g cap N f' → GoodI w' g N f' → SortedOn ltI f' a' m' → SortedOn ltI f' m' b' → Calls Tryz.prog 83 (symArgs g cap N a' m' b') w' fun e w'' => e = .returned (.tuple #[]) ∧ Sorted w' w'' g cap N a' b' f' :=
          fun a' m' b' f' w' hlt => sym_calls o g cap N hN d a' m' b' f' w' (by omega)
        by_cases hmm : (a + b) / 2 < m
        · exact sym_gen1 o g cap N a m b f w hr hg (by omega) (by omega) hb hN h1 h2 hmm ih
        · exact sym_gen2 o g cap N a m b f w hr hg (by omega) (by omega) hb hN h1 h2 hmm ih

def Blk (f : Nat → Item) (N bs lo : Nat) : Prop := ∀ u x, x = u * bs → lo ≤ x → x < N → SortedOn ltI f x (min (x + bs) N)
theorem mult_gap {u v c : Nat} (h : u * c < v * c) : u * c + c ≤ v * c := by
  have h1 : u < v := Nat.lt_of_mul_lt_mul_right h
  have h2 := Nat.mul_le_mul_right c (show u + 1 ≤ v from h1)
  rwa [Nat.add_mul, Nat.one_mul] at h2
theorem blk_merge {f f' : Nat → Item} {N bs v : Nat} (hb0 : 0 < bs) (h : Blk f N bs (v * (2 * bs))) (hw : Within (v * (2 * bs)) (v * (2 * bs) + 2 * bs) f f') : Blk f' N bs ((v + 1) * (2 * bs)) := by
  intro u x hx hlo hxN
  have e : (v + 1) * (2 * bs) = v * (2 * bs) + 2 * bs := by rw [Nat.add_mul, Nat.one_mul]
  exact (h u x hx (by omega) hxN).off hw (.inr (by omega))
def Fin2 (f : Nat → Item) (c hi : Nat) : Prop := ∀ u x, x = u * c → x + c ≤ hi → SortedOn ltI f x (x + c)
theorem fin_step {f f' : Nat → Item} {c v : Nat} (h : Fin2 f c (v * c)) (hw : Within (v * c) (v * c + c) f f') (hs : SortedOn ltI f' (v * c) (v * c + c)) : Fin2 f' c ((v + 1) * c) := by
  intro u x hx hhi
  have e : (v + 1) * c = v * c + c := by rw [Nat.add_mul, Nat.one_mul]
  by_cases hlt : x + c ≤ v * c
  · exact (h u x hx hlt).off hw (.inl hlt)
  · by_cases hc : c = 0
    · subst hc
      exact SortedOn.small (by omega)
    · subst hx
      have huv : ¬ u * c < v * c := fun h1 => hlt (mult_gap h1)
      have hvu : ¬ v * c < u * c := fun h1 => by have := mult_gap h1; omega
      have e2 : u * c = v * c := by omega
      rw [e2]
      exact hs
theorem blk_done {f : Nat → Item} {N c v : Nat} (h : Fin2 f c (v * c)) (hs : v * c < N → SortedOn ltI f (v * c) N) (hN : N < v * c + c) : Blk f N c 0 := by
  intro u x hx _ hxN
  by_cases hlt : x + c ≤ v * c
  · exact (h u x hx hlt).sub (Nat.le_refl _) (Nat.min_le_left _ _)
  · subst hx
    have huv : ¬ u * c < v * c := fun h1 => hlt (mult_gap h1)
    have hvu : ¬ v * c < u * c := fun h1 => by have := mult_gap h1; omega
    have e2 : u * c = v * c := by omega
    rw [e2] at hxN ⊢
    exact (hs hxN).sub (Nat.le_refl _) (Nat.min_le_right _ _)

set_option maxHeartbeats 4000000 in
set_option maxRecDepth 100000 in
theorem stable_calls (o : Ord ltI) (g cap N : Nat) (f : Nat → Item) (w : World) (h : RowI w g cap N f) (hgd : GoodI w g N f) (hN : N ≤ 100000) :
    Calls Tryz.prog 69 #[.slice (some ⟨g, 0, none⟩) N cap, .int .i64 N, cmpV] w fun e w' => e = .returned (.tuple #[]) ∧ Sorted w w' g cap N 0 N f := by
  have HR := Lib.hid h
  have HGD := Lib.hid hgd
  have HO := Lib.hid o
  clear h hgd o
  unfold cmpV
  go_enter Tryz.func69, Tryz.ntmps69
  go_wp2
  go_loopg [7, 8] N (fun gh av bv wr => ∃ (t : Nat) (f' : Nat → Item), 20 * t ≤ N ∧ gh = N - 20 * t ∧ av = .int .i64 ((20 * t : Nat) : Int) ∧ bv = .int .i64 ((20 * t + 20 : Nat) : Int) ∧ RowI wr g cap N f' ∧ PermF N f f' ∧ Within 0 N f f' ∧ w.grownBy wr (some g) ∧ ∀ u, u < t → SortedOn ltI f' (20 * u) (20 * u + 20))
  case atStart => exact ⟨0, f, by omega, by omega, by go_num, by go_num, HR.out, PermF.refl _ _, Within.refl _ _ _, World.grownBy.refl _ _, fun u hu => by omega⟩
  case round =>
    obtain ⟨t, f', ht, hg, rfl, rfl, hr, hp, hwi, hgr, hbl⟩ := hrel
    have hgd1 := HGD.out.keep HR.out hr hgr hwi (Nat.le_refl _)
    by_cases hlt : 20 * t + 20 ≤ N
    · have hins := insertion_calls HO.out g cap N (20 * t) (20 * t + 20) f' wr hr hgd1 (by omega) hlt hN
      unfold cmpV at hins
      have hle : ((20 * t + 20 : Nat) : Int) ≤ N := by omega
      have e1 : ((20 * t + 20 : Nat) : Int) + 20 = ((20 * (t + 1) + 20 : Nat) : Int) := by omega
      have e2 : ((20 * t + 20 : Nat) : Int) = ((20 * (t + 1) : Nat) : Int) := by omega
      obtain ⟨A, hA⟩ : ∃ A : Nat, A = 20 * t := ⟨_, rfl⟩
      obtain ⟨B, hB⟩ : ∃ B : Nat, B = 20 * t + 20 := ⟨_, rfl⟩
      rw [← hB] at e1 e2 hle hins ⊢
      rw [← hA] at hins ⊢
      have hbN : B ≤ 100000 := by omega
      have hbN2 : B ≤ N := by omega
      have HG := Lib.hid hg
      have HRR := Lib.hid hr
      have HP := Lib.hid hp
      have HWI := Lib.hid hwi
      have HGR := Lib.hid hgr
      have HBL := Lib.hid hbl
      have HGD1 := Lib.hid hgd1
      have HINS := Lib.hid hins
      have E1 := Lib.hid e1
      have E2 := Lib.hid e2
      have HA := Lib.hid hA
      have HB := Lib.hid hB
      clear hg hr hp hwi hgr hbl hgd1 hins e1 e2 hA hB
      go_wp2_with (go_at_call 82; refine HINS.out.mono ?_; rintro e w1 ⟨rfl, f1, s1, s2, s3, s4, s5⟩)
      go_roundg (N - 20 * (t + 1))
      case measure => have := HG.out; omega
      case rel =>
        have hA := HA.out
        have hB := HB.out
        subst hA hB
        refine ⟨t + 1, f1, by omega, rfl, by rw [E2.out], by rw [← E1.out], s1, PermF.trans HP.out s2, Within.trans HWI.out (s3.mono (Nat.zero_le _) (by omega)), World.grownBy.trans HGR.out s5, fun u hu => ?_⟩
        by_cases hut : u = t
        · subst hut; exact s4
        · exact (HBL.out u (by omega)).off s3 (.inl (by omega))
    · have hins := insertion_calls HO.out g cap N (20 * t) N f' wr hr hgd1 ht (Nat.le_refl _) hN
      unfold cmpV at hins
      have hle : ¬ ((20 * t + 20 : Nat) : Int) ≤ N := by omega
      obtain ⟨A, hA⟩ : ∃ A : Nat, A = 20 * t := ⟨_, rfl⟩
      obtain ⟨B, hB⟩ : ∃ B : Nat, B = 20 * t + 20 := ⟨_, rfl⟩
      rw [← hB] at hle ⊢
      rw [← hA] at hins ⊢
      have hbN2 : ¬ B ≤ N := by omega
      have HG := Lib.hid hg
      have HRR := Lib.hid hr
      have HP := Lib.hid hp
      have HWI := Lib.hid hwi
      have HGR := Lib.hid hgr
      have HBL := Lib.hid hbl
      have HGD1 := Lib.hid hgd1
      have HINS := Lib.hid hins
      have HA := Lib.hid hA
      have HB := Lib.hid hB
      clear hg hr hp hwi hgr hbl hgd1 hins hA hB
      go_wp2_with (go_at_call 82; refine HINS.out.mono ?_; rintro e w1 ⟨rfl, f1, s1, s2, s3, s4, s5⟩)
      have hblk : Blk f1 N 20 0 := by
        have hA := HA.out
        refine blk_done (v := t) (fun u x hx hhi => ?_) (fun _ => ?_) (by omega)
        · exact ((HBL.out u (by omega)).off s3 (.inl (by omega))) |> fun h => by rw [hx, show u * 20 = 20 * u by omega]; exact h
        · rw [show t * 20 = A by omega]; exact s4
      have hp1 := PermF.trans HP.out s2
      have hw1 := Within.trans HWI.out (s3.mono (Nat.zero_le _) (Nat.le_refl _))
      have hg1 := World.grownBy.trans HGR.out s5
      have S1 := Lib.hid s1
      have HBLK := Lib.hid hblk
      have HP1 := Lib.hid hp1
      have HW1 := Lib.hid hw1
      have HG1 := Lib.hid hg1
      clear s1 hblk hp1 hw1 hg1
      clear s2 s3 s4 s5 HBL HWI HGR HP HRR HGD1 HINS HG HA HB hbN2 hle
      go_loopg [6, 7, 8, 9] N (fun gh bsv av bv mv wr => ∃ (bs : Nat) (f' : Nat → Item), 20 ≤ bs ∧ bs ≤ 200000 ∧ gh = N - (bs - 20) ∧ bsv = .int .i64 bs ∧ RowI wr g cap N f' ∧ PermF N f f' ∧ Within 0 N f f' ∧ w.grownBy wr (some g) ∧ Blk f' N bs 0)
      case atStart => exact ⟨20, f1, by omega, by omega, by omega, by go_num, S1.out, HP1.out, HW1.out, HG1.out, HBLK.out⟩
      case round =>
        obtain ⟨bs, f2, hbs1, hbs2, hg, rfl, hr, hp, hwi, hgr, hbl⟩ := hrel
        clear S1 HP1 HW1 HG1 HBLK
        by_cases hlt2 : bs < N
        · obtain ⟨B2, hB2⟩ : ∃ B2, B2 = 2 * bs := ⟨_, rfl⟩
          have eB : (2 : Int) * bs = (B2 : Int) := by omega
          have eB' : (bs : Int) * 2 = (B2 : Int) := by omega
          have hB2a : 2 * bs ≤ B2 := by omega
          have hB2b : B2 ≤ 2 * bs := by omega
          have hblB : Blk f2 N bs (0 * B2) := by rw [Nat.zero_mul]; exact hbl
          have HG := Lib.hid hg
          have HRR := Lib.hid hr
          have HP := Lib.hid hp
          have HWI := Lib.hid hwi
          have HGR := Lib.hid hgr
          have HBL := Lib.hid hbl
          have HBLB := Lib.hid hblB
          have EB := Lib.hid eB
          have EB' := Lib.hid eB'
          have HB2 := Lib.hid hB2
          clear hg hr hp hwi hgr hbl hblB eB eB' hB2
          go_wp2_with fail
          rw [EB.out]
          go_loopg [7, 8] N (fun gh av bv wr => ∃ (v A : Nat) (f3 : Nat → Item), A = v * B2 ∧ A ≤ N ∧ gh = N - A ∧ av = .int .i64 A ∧ bv = .int .i64 ((A + B2 : Nat) : Int) ∧ RowI wr g cap N f3 ∧ PermF N f f3 ∧ Within 0 N f f3 ∧ w.grownBy wr (some g) ∧ Fin2 f3 B2 A ∧ Blk f3 N bs A)
          case atStart => exact ⟨0, 0, f2, by omega, by omega, by omega, by go_num, by rw [Nat.zero_add], HRR.out, HP.out, HWI.out, HGR.out, fun u x hx hh => by omega, HBL.out⟩
          case round =>
            obtain ⟨v, A, f3, hA, hAN, hgA, rfl, rfl, hr3, hp3, hw3, hgr3, hfi, hbl3⟩ := hrel
            have hgd3 := HGD.out.keep HR.out hr3 hgr3 hw3 (Nat.le_refl _)
            have hB2 := HB2.out
            have eA1 : A = (2 * v) * bs := by rw [hA, hB2, Nat.mul_comm 2 v, Nat.mul_assoc]
            have eA2 : A + bs = (2 * v + 1) * bs := by rw [Nat.add_mul, Nat.one_mul, ← eA1]
            clear HRR HP HWI HGR HBL HBLB
            have eAb : (A : Int) + bs = ((A + bs : Nat) : Int) := by omega
            by_cases hin : A + B2 ≤ N
            · have s1 : SortedOn ltI f3 A (A + bs) := by have := hbl3 (2 * v) A eA1 (Nat.le_refl _) (by omega); rwa [show min (A + bs) N = A + bs by omega] at this
              have s2 : SortedOn ltI f3 (A + bs) (A + B2) := by have := hbl3 (2 * v + 1) (A + bs) eA2 (by omega) (by omega); rwa [show min (A + bs + bs) N = A + B2 by omega] at this
              have hsy := sym_calls HO.out g cap N hN N A (A + bs) (A + B2) f3 wr (by omega) (by omega) (by omega) hin hr3 hgd3 s1 s2
              unfold symArgs cmpV at hsy
              have hinI : ((A + B2 : Nat) : Int) ≤ N := by omega
              have eN : ((A + B2 : Nat) : Int) + B2 = ((A + B2 + B2 : Nat) : Int) := by omega
              obtain ⟨BB, hBB⟩ : ∃ BB : Nat, BB = A + B2 := ⟨_, rfl⟩
              rw [← hBB] at hsy hinI eN hin ⊢
              have hBB1 : BB ≤ A + B2 := by omega
              have hBB2 : A + B2 ≤ BB := by omega
              have HGA := Lib.hid hgA
              have HR3 := Lib.hid hr3
              have HP3 := Lib.hid hp3
              have HW3 := Lib.hid hw3
              have HGR3 := Lib.hid hgr3
              have HFI := Lib.hid hfi
              have HBL3 := Lib.hid hbl3
              have HGD3 := Lib.hid hgd3
              have HA := Lib.hid hA
              have HB2' := Lib.hid hB2
              have EA1 := Lib.hid eA1
              have EA2 := Lib.hid eA2
              have EAB := Lib.hid eAb
              have SS1 := Lib.hid s1
              have SS2 := Lib.hid s2
              have HSY := Lib.hid hsy
              have EN := Lib.hid eN
              have HBB := Lib.hid hBB
              clear hgA hr3 hp3 hw3 hgr3 hfi hbl3 hgd3 hA hB2 eA1 eA2 eAb s1 s2 hsy eN hBB
              go_wp2_with (first
                | (go_at_call 83; rw [EAB.out]; refine HSY.out.mono ?_; rintro e w1 ⟨rfl, f4, z1, z2, z3, z4, z5⟩))
              go_roundg (N - BB)
              case measure => have := HGA.out; omega
              case rel =>
                have hA := HA.out
                have hBB := HBB.out
                have hB2 := HB2'.out
                have e1 : (v + 1) * B2 = BB := by rw [Nat.add_mul, Nat.one_mul, ← hA]; omega
                have hw' : Within (v * B2) (v * B2 + B2) f3 f4 := by rw [← hA, ← hBB]; exact z3
                have hfi' : Fin2 f4 B2 BB := by rw [← e1]; exact fin_step (by rw [← hA]; exact HFI.out) hw' (by rw [← hA, ← hBB]; exact z4)
                have hbl' : Blk f4 N bs BB := by
                  rw [← e1, hB2]
                  exact blk_merge (by omega) (by rw [← hB2, ← hA]; exact HBL3.out) (by rw [← hB2]; exact hw')
                refine ⟨v + 1, BB, f4, e1.symm, hin, rfl, rfl, ?_, z1, PermF.trans HP3.out z2, Within.trans HW3.out (z3.mono (Nat.zero_le _) hin), World.grownBy.trans HGR3.out z5, hfi', hbl'⟩
                rw [← show ((BB : Int)) + B2 = ((BB + B2 : Nat) : Int) by omega, EB.out]
            · have hinI : ¬ ((A + B2 : Nat) : Int) ≤ N := by omega
              have hinN : N < A + B2 := by omega
              obtain ⟨BB, hBB⟩ : ∃ BB : Nat, BB = A + B2 := ⟨_, rfl⟩
              rw [← hBB] at hinI ⊢
              have hinB : ¬ BB ≤ N := by omega
              by_cases hm : A + bs < N
              · have s1 : SortedOn ltI f3 A (A + bs) := by have := hbl3 (2 * v) A eA1 (Nat.le_refl _) (by omega); rwa [show min (A + bs) N = A + bs by omega] at this
                have s2 : SortedOn ltI f3 (A + bs) N := by have := hbl3 (2 * v + 1) (A + bs) eA2 (by omega) (by omega); rwa [show min (A + bs + bs) N = N by omega] at this
                have hsy := sym_calls HO.out g cap N hN N A (A + bs) N f3 wr (by omega) (by omega) hm (Nat.le_refl _) hr3 hgd3 s1 s2
                unfold symArgs cmpV at hsy
                have hmI : (A : Int) + bs < N := by omega
                have HGA := Lib.hid hgA
                have HR3 := Lib.hid hr3
                have HP3 := Lib.hid hp3
                have HW3 := Lib.hid hw3
                have HGR3 := Lib.hid hgr3
                have HFI := Lib.hid hfi
                have HBL3 := Lib.hid hbl3
                have HGD3 := Lib.hid hgd3
                have HA := Lib.hid hA
                have HB2' := Lib.hid hB2
                have EA1 := Lib.hid eA1
                have EA2 := Lib.hid eA2
                have EAB := Lib.hid eAb
                have SS1 := Lib.hid s1
                have SS2 := Lib.hid s2
                have HSY := Lib.hid hsy
                have HBB := Lib.hid hBB
                clear hgA hr3 hp3 hw3 hgr3 hfi hbl3 hgd3 hA hB2 eA1 eA2 eAb s1 s2 hsy hBB
                go_wp2_with (first
                  | (go_at_call 83; rw [EAB.out]; refine HSY.out.mono ?_; rintro e w1 ⟨rfl, f4, z1, z2, z3, z4, z5⟩))
                go_roundg (N - (B2 - 20))
                case measure => have := HG.out; omega
                case rel =>
                  have hA := HA.out
                  have hfi' : Fin2 f4 B2 (v * B2) := fun u x hx hh => (HFI.out u x hx (by rw [hA]; exact hh)).off z3 (.inl (by rw [hA]; exact hh))
                  refine ⟨B2, f4, by omega, by omega, rfl, ?_, z1, PermF.trans HP3.out z2, Within.trans HW3.out (z3.mono (Nat.zero_le _) (Nat.le_refl _)), World.grownBy.trans HGR3.out z5, blk_done hfi' (fun _ => by rw [← hA]; exact z4) (by rw [← hA]; exact hinN)⟩
                  first | rfl | (rw [EB'.out]) | go_num
              · have s1 : A < N → SortedOn ltI f3 A N := fun hAl => by have := hbl3 (2 * v) A eA1 (Nat.le_refl _) hAl; rwa [show min (A + bs) N = N by omega] at this
                have hmI : ¬ (A : Int) + bs < N := by omega
                have hfi' : Fin2 f3 B2 (v * B2) := by rw [← hA]; exact hfi
                have hblk := blk_done hfi' (fun h => by rw [← hA] at h ⊢; exact s1 h) (by rw [← hA]; exact hinN)
                have HGA := Lib.hid hgA
                have HR3 := Lib.hid hr3
                have HP3 := Lib.hid hp3
                have HW3 := Lib.hid hw3
                have HGR3 := Lib.hid hgr3
                have HFI := Lib.hid hfi
                have HBL3 := Lib.hid hbl3
                have HGD3 := Lib.hid hgd3
                have HA := Lib.hid hA
                have HB2' := Lib.hid hB2
                have EA1 := Lib.hid eA1
                have EA2 := Lib.hid eA2
                have EAB := Lib.hid eAb
                have SS1 := Lib.hid s1
                have HBB := Lib.hid hBB
                have HFI' := Lib.hid hfi'
                have HBLK := Lib.hid hblk
                clear hgA hr3 hp3 hw3 hgr3 hfi hbl3 hgd3 hA hB2 eA1 eA2 eAb s1 hBB hfi' hblk
                go_wp2_with fail
                go_roundg (N - (B2 - 20))
                case measure => have := HG.out; omega
                case rel =>
                  refine ⟨B2, f3, by omega, by omega, rfl, ?_, HR3.out, HP3.out, HW3.out, HGR3.out, HBLK.out⟩
                  first | rfl | (rw [EB'.out]) | go_num
        · have hfin : SortedOn ltI f2 0 N := by
            by_cases hN0 : N = 0
            · exact SortedOn.small (by omega)
            · have := hbl 0 0 (by omega) (by omega) (by omega)
              rwa [show min (0 + bs) N = N by omega] at this
          have HG := Lib.hid hg
          have HRR := Lib.hid hr
          have HP := Lib.hid hp
          have HWI := Lib.hid hwi
          have HGR := Lib.hid hgr
          have HBL := Lib.hid hbl
          have HFIN := Lib.hid hfin
          clear hg hr hp hwi hgr hbl hfin
          go_wp2_with fail
          go_end0
          exact ⟨rfl, f2, HRR.out, HP.out, HWI.out, HFIN.out, HGR.out⟩

theorem sortStable_calls (o : Ord ltI) (g cap N : Nat) (f : Nat → Item) (w : World) (h : RowI w g cap N f) (hgd : GoodI w g N f) (hN : N ≤ 100000) :
    Calls Tryz.prog 49 #[.slice (some ⟨g, 0, none⟩) N cap, cmpV] w fun e w' => e = .returned (.tuple #[]) ∧ Sorted w w' g cap N 0 N f := by
  have h1 := stable_calls o g cap N f w h hgd hN
  unfold cmpV at h1 ⊢
  have H1 := Lib.hid h1
  have HR := Lib.hid h
  have HGD := Lib.hid hgd
  have HO := Lib.hid o
  clear h1 h hgd o
  go_enter Tryz.func49, Tryz.ntmps49
  go_wp2_with (go_at_call 69; refine H1.out.mono ?_; rintro e w1 ⟨rfl, s1⟩)
  go_end0
  exact ⟨rfl, s1⟩

theorem cmpFact_lt {x y : Fact} : cmpFact x y < 0 ↔ x.1 < y.1 ∨ (x.1 = y.1 ∧ x.2 < y.2) := by
  unfold cmpFact
  by_cases h : cmpI x.1 y.1 = 0
  · rw [if_neg (by simpa using h), cmpI_lt]
    have := cmpI_zero.1 h
    omega
  · rw [if_pos h, cmpI_lt]
    have : x.1 ≠ y.1 := fun e => h (cmpI_zero.2 e)
    omega
theorem cmpFact_zero {x y : Fact} : cmpFact x y = 0 ↔ x = y := by
  unfold cmpFact
  by_cases h : cmpI x.1 y.1 = 0
  · rw [if_neg (by simpa using h), cmpI_zero]
    have := cmpI_zero.1 h
    exact ⟨fun e => Prod.ext this e, fun e => by rw [e]⟩
  · rw [if_pos h]
    exact ⟨fun e => absurd e h, fun e => absurd (cmpI_zero.2 (congrArg Prod.fst e)) h⟩
def LtL : List Fact → List Fact → Prop
  | [], [] => False
  | [], _ :: _ => True
  | _ :: _, [] => False
  | x :: r, y :: s => (x.1 < y.1 ∨ (x.1 = y.1 ∧ x.2 < y.2)) ∨ (x = y ∧ LtL r s)
theorem cmpL_lt : ∀ (a b : List Fact), cmpL a b < 0 ↔ LtL a b
  | [], [] => by simp [cmpL, LtL]
  | [], _ :: _ => by simp [cmpL, LtL]
  | _ :: _, [] => by simp [cmpL, LtL]
  | x :: r, y :: s => by
    rw [cmpL, LtL]
    by_cases h : cmpFact x y = 0
    · rw [if_neg (by simpa using h), cmpL_lt r s]
      have := cmpFact_zero.1 h
      subst this
      simp
    · rw [if_pos h, cmpFact_lt]
      have : x ≠ y := fun e => h (cmpFact_zero.2 e)
      simp [this]
theorem LtL_trans : ∀ (a b c : List Fact), LtL a b → LtL b c → LtL a c
  | [], [], _, h, _ => by cases h
  | [], _ :: _, [], _, h => by cases h
  | [], _ :: _, _ :: _, _, _ => trivial
  | _ :: _, [], _, h, _ => by cases h
  | _ :: _, _ :: _, [], _, h => by cases h
  | x :: r, y :: s, z :: t, h1, h2 => by
    rw [LtL] at h1 h2 ⊢
    rcases h1 with h1 | ⟨rfl, h1⟩
    · rcases h2 with h2 | ⟨rfl, h2⟩
      · left; omega
      · left; exact h1
    · rcases h2 with h2 | ⟨rfl, h2⟩
      · left; exact h2
      · right; exact ⟨rfl, LtL_trans r s t h1 h2⟩
theorem LtL_tri : ∀ (a b : List Fact), LtL a b ∨ a = b ∨ LtL b a
  | [], [] => .inr (.inl rfl)
  | [], _ :: _ => .inl trivial
  | _ :: _, [] => .inr (.inr trivial)
  | x :: r, y :: s => by
    rw [LtL, LtL]
    by_cases h : x = y
    · subst h
      rcases LtL_tri r s with h | h | h
      · exact .inl (.inr ⟨rfl, h⟩)
      · exact .inr (.inl (by rw [h]))
      · exact .inr (.inr (.inr ⟨rfl, h⟩))
    · have : x.1 ≠ y.1 ∨ x.2 ≠ y.2 := by
        rcases Decidable.em (x.1 = y.1) with e | e
        · exact .inr (fun e2 => h (Prod.ext e e2))
        · exact .inl e
      have : (x.1 < y.1 ∨ (x.1 = y.1 ∧ x.2 < y.2)) ∨ (y.1 < x.1 ∨ (y.1 = x.1 ∧ y.2 < x.2)) := by omega
      rcases this with h | h
      · exact .inl (.inl h)
      · exact .inr (.inr (.inl h))
theorem LtL_irr : ∀ a : List Fact, ¬ LtL a a
  | [], h => by cases h
  | x :: r, h => by
    rw [LtL] at h
    rcases h with h | ⟨_, h⟩
    · omega
    · exact LtL_irr r h
def LtN (x y : Nogood) : Prop := x.2 < y.2 ∨ (x.2 = y.2 ∧ LtL x.1 y.1)
theorem cmpN_lt (x y : Nogood) : cmpN x y < 0 ↔ LtN x y := by
  unfold cmpN LtN
  by_cases h : cmpI x.2 y.2 = 0
  · rw [if_neg (by simpa using h), cmpL_lt]
    have := cmpI_zero.1 h
    constructor
    · exact fun h => .inr ⟨this, h⟩
    · rintro (h | ⟨_, h⟩)
      · omega
      · exact h
  · rw [if_pos h, cmpI_lt]
    have : x.2 ≠ y.2 := fun e => h (cmpI_zero.2 e)
    constructor
    · exact fun h => .inl h
    · rintro (h | ⟨h, _⟩)
      · exact h
      · exact absurd h this
theorem LtN_trans {x y z : Nogood} (a : LtN x y) (b : LtN y z) : LtN x z := by
  unfold LtN at *
  rcases a with a | ⟨a, a'⟩ <;> rcases b with b | ⟨b, b'⟩
  · left; omega
  · left; omega
  · left; omega
  · right; exact ⟨by omega, LtL_trans _ _ _ a' b'⟩
theorem LtN_tri (x y : Nogood) : LtN x y ∨ x = y ∨ LtN y x := by
  unfold LtN
  rcases Int.lt_trichotomy x.2 y.2 with h | h | h
  · exact .inl (.inl h)
  · rcases LtL_tri x.1 y.1 with h' | h' | h'
    · exact .inl (.inr ⟨h, h'⟩)
    · exact .inr (.inl (Prod.ext h' h))
    · exact .inr (.inr (.inr ⟨h.symm, h'⟩))
  · exact .inr (.inr (.inl h))
theorem LtN_irr (x : Nogood) : ¬ LtN x x := by
  rintro (h | ⟨_, h⟩)
  · omega
  · exact LtL_irr _ h
theorem leN_iff (x y : Nogood) : ¬ LtN y x ↔ LtN x y ∨ x = y := by
  constructor
  · intro h
    rcases LtN_tri x y with h' | h' | h'
    · exact .inl h'
    · exact .inr h'
    · exact absurd h' h
  · rintro (h | rfl) h'
    · exact LtN_irr _ (LtN_trans h h')
    · exact LtN_irr _ h'
theorem leI_iff (x y : Item) : leB ltI x y ↔ ¬ LtN y.2 x.2 := by
  unfold leB ltI
  rw [decide_eq_false_iff_not, cmpN_lt]
theorem ordI : Ord ltI := by
  constructor
  · intro x y z h1 h2
    rw [leI_iff, leN_iff] at *
    rcases h1 with h1 | h1 <;> rcases h2 with h2 | h2
    · exact .inl (LtN_trans h1 h2)
    · exact .inl (by rw [← h2]; exact h1)
    · exact .inl (by rw [h1]; exact h2)
    · exact .inr (by rw [h1, h2])
  · intro x y h
    rw [leI_iff, leN_iff]
    left
    unfold ltI at h
    rw [decide_eq_true_eq, cmpN_lt] at h
    exact h
end Go.Proofs.YtcpajbglcgbolaaGreat
namespace Go.Proofs.YtcpajbglcgbolaaGreat
open Go.RowKit

def itemCells : List Item → List Value
  | [] => []
  | x :: r => .slice x.1.1 x.1.2.1 x.1.2.2 :: .int .i64 x.2.2 :: itemCells r
theorem itemCells_length (l : List Item) : (itemCells l).length = l.length * 2 := by
  induction l with
  | nil => rfl
  | cons x r ih => simp only [itemCells, List.length_cons, ih]; omega
theorem itemCells_append (a b : List Item) : itemCells (a ++ b) = itemCells a ++ itemCells b := by
  induction a with
  | nil => rfl
  | cons x r ih => simp [itemCells, ih]
theorem itemCells_one (l : List Item) : ∀ u ∈ itemCells l, u.oneCell' = true := by
  induction l with
  | nil => intro u h; cases h
  | cons x r ih =>
    intro u h
    simp only [itemCells, List.mem_cons] at h
    rcases h with rfl | rfl | h
    · rfl
    · rfl
    · exact ih u h
theorem itemCells_at (l : List Item) : ∀ (k : Nat) (x : Item), l[k]? = some x → (itemCells l)[k * 2]? = some (.slice x.1.1 x.1.2.1 x.1.2.2) ∧ (itemCells l)[k * 2 + 1]? = some (.int .i64 x.2.2) := by
  induction l with
  | nil => intro k x h; simp at h
  | cons y r ih =>
    intro k x h
    cases k with
    | zero => simp at h; subst h; simp [itemCells]
    | succ k =>
      simp at h
      obtain ⟨h1, h2⟩ := ih k x h
      rw [show (k + 1) * 2 = k * 2 + 1 + 1 from by omega, show k * 2 + 1 + 1 + 1 = (k * 2 + 1) + 1 + 1 from rfl]
      simp only [itemCells, List.getElem?_cons_succ]
      exact ⟨h1, h2⟩
theorem nogoodInfo : (Tryz.prog.info? 51).map (fun i => (i.zero, i.size, i.bytes)) = some (some (.agg #[.slice none 0 0, .int .i64 0]), 2, 32) := by kernel_rfl

def EntN (w : World) (base : Nat) (x : Item) : Prop := OwnF w base (.slice x.1.1 x.1.2.1 x.1.2.2) x.2.1 ∧ x.2.1.length * 16 ≤ 140737488355328
def OwnN (w : World) (base : Nat) (v : Value) (l : List Nogood) : Prop :=
  ∃ its : List Item, its.map (·.2) = l ∧ w.ownsRow base 51 2 v l.length (itemCells its) ∧ ∀ x ∈ its, EntN w base x
theorem OwnN.nil_ (w : World) (base : Nat) : OwnN w base (.slice none 0 0) [] := ⟨[], rfl, ⟨rfl, .inl ⟨rfl, rfl⟩⟩, fun x hx => by cases hx⟩
theorem OwnN.form {w : World} {base : Nat} {v : Value} {l : List Nogood} (h : OwnN w base v l) : ∃ A c, v = .slice A l.length c := by
  obtain ⟨its, _, h, _⟩ := h
  rcases h.2 with ⟨rfl, h0⟩ | ⟨g, cap, cur, rfl, _⟩
  · exact ⟨none, 0, by rw [h0]⟩
  · exact ⟨_, _, rfl⟩
theorem EntN.facts {w : World} {base : Nat} {x : Item} (h : EntN w base x) : FactsAt w (.slice x.1.1 x.1.2.1 x.1.2.2) x.2.1 := OwnF.facts h.1 h.2
theorem EntN.kept {w w' : World} {base : Nat} {x : Item} {row : Option Nat} (h : EntN w base x) (hg : w.grownBy w' row) (hr : ∀ r, row = some r → r < base) : EntN w' base x := by
  refine ⟨World.ownsRow.kept h.1 hg ?_, h.2⟩
  cases ho : (Value.slice x.1.1 x.1.2.1 x.1.2.2).ownBlock with
  | none => exact .inl rfl
  | some k => exact .inr (fun e => by have h1 := (h.1.lt k ho).1; have h2 := hr k e.symm; omega)
theorem EntN.other {w w' : World} {base g : Nat} {cur : Array Value} {x : Item} (h : EntN w base x) (hg : w.grownBy w' (some g)) (hh : w.heap[g]? = some (.cells cur 51 (0, 0))) : EntN w' base x := by
  refine ⟨World.ownsRow.kept h.1 hg ?_, h.2⟩
  rcases h.1.2 with ⟨hv, _⟩ | ⟨g', cap', cur', hv, _, hh', _⟩
  · rw [hv]; exact .inl rfl
  · rw [hv]
    refine .inr (fun e => ?_)
    have : g' = g := by simpa [Value.ownBlock] using e
    subst this
    rw [hh] at hh'
    injection hh' with hh'
    injection hh' with _ h2 _
    exact absurd h2 (by decide)
theorem OwnN.kept {w w' : World} {base : Nat} {v : Value} {l : List Nogood} {row : Option Nat} (h : OwnN w base v l) (hg : w.grownBy w' row) (hr : ∀ r, row = some r → r < base) : OwnN w' base v l := by
  obtain ⟨its, h1, h2, h3⟩ := h
  refine ⟨its, h1, h2.kept hg ?_, fun x hx => (h3 x hx).kept hg hr⟩
  cases ho : v.ownBlock with
  | none => exact .inl rfl
  | some k => exact .inr (fun e => by have a := (h2.lt k ho).1; have b := hr k e.symm; omega)
theorem OwnN.keep {w w' : World} {base : Nat} {v : Value} {l : List Nogood} (h : OwnN w base v l) (hb : Below w.heap.size w w') : OwnN w' base v l := h.kept (grown_of_below hb none) (fun r e => by cases e)
theorem OwnN.row {w : World} {base : Nat} {v : Value} {l : List Nogood} (h : OwnN w base v l) (hne : v ≠ .slice none 0 0) :
    ∃ g cap f, v = .slice (some ⟨g, 0, none⟩) l.length cap ∧ base ≤ g ∧ RowI w g cap l.length f ∧ GoodI w g l.length f ∧ (List.range l.length).map (fun k => (f k).2) = l ∧ (∀ k, k < l.length → EntN w base (f k)) ∧ cap ≤ maxLen := by
  obtain ⟨its, h1, ho, h3⟩ := h
  have hlen : its.length = l.length := by rw [← h1]; simp
  rcases id ho.2 with ⟨rfl, h0⟩ | ⟨g, cap, cur, rfl, hbg, hh, hnc, hmx, hcs, htake⟩
  · exact absurd rfl hne
  · refine ⟨g, cap, fun k => its.getD k ((none, 0, 0), ([], 0)), rfl, hbg, ⟨cur, hh, hcs, hnc, fun k hk => ?_⟩, fun k hk => ?_, ?_, fun k hk => ?_, hmx⟩
    · have hit : its[k]? = some its[k] := List.getElem?_eq_getElem (by omega)
      obtain ⟨a, b⟩ := itemCells_at its k _ hit
      rw [← htake, List.getElem?_take] at a b
      rw [if_pos (by omega)] at a b
      simp only [List.getD_eq_getElem?_getD, hit, Option.getD_some]
      exact ⟨by simpa using a, by simpa using b⟩
    · have hit : its[k]? = some its[k] := List.getElem?_eq_getElem (by omega)
      simp only [List.getD_eq_getElem?_getD, hit, Option.getD_some]
      exact ((h3 its[k] (List.getElem_mem _)).other (hush_grown g w) hh).facts
    · rw [← h1]
      refine List.ext_getElem (by simp) (fun k hk1 hk2 => ?_)
      simp at hk1 hk2
      simp [List.getD_eq_getElem?_getD, List.getElem?_eq_getElem hk2]
    · have hit : its[k]? = some its[k] := List.getElem?_eq_getElem (by omega)
      simp only [List.getD_eq_getElem?_getD, hit, Option.getD_some]
      exact h3 its[k] (List.getElem_mem _)
end Go.Proofs.YtcpajbglcgbolaaGreat
namespace Go.Proofs.YtcpajbglcgbolaaGreat.Am
open Go.RowKit
section
variable {w : World} {vs : Shp} {m : MM} {v : Value}
theorem rv_facts {l : List Fact} (h : RV w vs m (.sl 2 (l.map cF)) v) (hl : l.length * 16 ≤ 140737488355328) : FactsAt w v l := by
  obtain ⟨A, cap, b, off, f, rfl, hA, _, _, _, hc, hr, _⟩ := rv_sl h
  refine ⟨A, cap, by simp, hl, fun k x hx => ?_⟩
  have hk : (l.map cF)[k]? = some (cF x) := map_at' hx
  obtain ⟨rfl, _⟩ := hA (fun e => by rw [e] at hk; simp at hk)
  have h0 := (hc k 0 _ _ hk rfl).1
  have h1 := (hc k 1 _ _ hk rfl).1
  rw [rv_c (hr k 0 _ _ hk rfl)] at h0
  rw [rv_c (hr k 1 _ _ hk rfl)] at h1
  exact ⟨b, off, rfl, by simpa using h0, by simpa [Nat.add_assoc] using h1⟩
theorem rv_nogoods {l : List Nogood} (h : RV w vs m (.sl 2 (l.map cN)) v) (hl : l.length * 32 ≤ 140737488355328) (hs : ∀ x ∈ l, x.1.length * 16 ≤ 140737488355328) : NogoodsAt w v l := by
  obtain ⟨A, cap, b, off, f, rfl, hA, _, _, _, hc, hr, _⟩ := rv_sl h
  refine ⟨A, cap, by simp, hl, fun k x hx => ?_⟩
  have hk : (l.map cN)[k]? = some (cN x) := map_at' hx
  obtain ⟨rfl, _⟩ := hA (fun e => by rw [e] at hk; simp at hk)
  have h0 := (hc k 0 _ _ hk rfl).1
  have h1 := (hc k 1 _ _ hk rfl).1
  rw [rv_c (hr k 1 _ _ hk rfl)] at h1
  exact ⟨b, off, f k 0, rfl, by simpa using h0, rv_facts (hr k 0 _ _ hk rfl) (hs x (List.mem_of_getElem? hx)), by simpa [Nat.add_assoc] using h1⟩

theorem nil_rv (sz c : Nat) : RV w vs m (.sl sz []) (.slice none 0 c) :=
  RV.sl (l := []) (b := 0) (off := 0) (f := fun _ _ => undef) (fun h => absurd rfl h) (Nat.zero_le _) (by simp) (fun k e h => by simp at h) (fun k j e x h => by simp at h) (fun k j e x h => by simp at h) (fun e he => by cases he)
end
end Go.Proofs.YtcpajbglcgbolaaGreat.Am
namespace Go.Proofs.YtcpajbglcgbolaaGreat
open Go.RowKit

theorem ownN_append {W w' : World} {base : Nat} {v v' : Value} {l : List Nogood} {its : List Item} {x : Item} (h1 : its.map (·.2) = l) (hor : W.ownsRow base 51 2 v l.length (itemCells its)) (he : ∀ y ∈ its, EntN W base y) (hx : EntN W base x)
    (ho : w'.ownsRow base 51 2 v' (l.length + 1) (itemCells its ++ itemCells [x])) (hg : W.grownBy w' v.ownBlock) : OwnN w' base v' (l ++ [x.2]) := by
  have key : ∀ y, EntN W base y → EntN w' base y := by
    intro y hy
    rcases hor.2 with ⟨rfl, _⟩ | ⟨g, cap, cur, rfl, _, hh, _⟩
    · exact hy.kept hg (fun r e => by simp [Value.ownBlock] at e)
    · exact hy.other hg hh
  refine ⟨its ++ [x], by simp [h1], ?_, fun y hy => ?_⟩
  · rw [itemCells_append, List.length_append]; exact ho
  · rcases List.mem_append.1 hy with hy | hy
    · exact key y (he y hy)
    · simp at hy; subst hy; exact key y hx

theorem OwnN.mono {w : World} {base base' : Nat} {v : Value} {l : List Nogood} (h : OwnN w base v l) (hb : base' ≤ base) : OwnN w base' v l := by
  obtain ⟨its, h1, h2, h3⟩ := h
  exact ⟨its, h1, own_mono h2 hb, fun x hx => ⟨own_mono (h3 x hx).1 hb, (h3 x hx).2⟩⟩
theorem clone_append {wr w1 : World} {B k oc : Nat} {oA : Option Addr} {l : List Nogood} {its : List Item} {A1 : Option Addr} {c1 : Nat} {x : List Fact} {bs : Nat}
    (ho1 : OwnF w1 bs (.slice A1 x.length c1) x) (hb : Below wr.heap.size wr w1) (hsz : B + 3 ≤ wr.heap.size) (hi1 : its.map (·.2) = l.take k) (hlk : (l.take k).length = k) (hor : wr.ownsRow (B + 3) 51 2 (.slice oA k oc) k (itemCells its)) (hien : ∀ y ∈ its, EntN wr (B + 3) y) (xd : Int) (hx : x.length * 16 ≤ 140737488355328 ∧ wr.heap.size ≤ bs) :
    ∀ {ops : Array Oper} {o : Oper} {a : Act} {K : Act → World → Prop} {Q : Exit → Act → World → Prop} {E : Prop} (_ : o.guard = none) (s y : Operand) (_ : o.op = .call { callee := .builtin .append, args := #[s, y], argTypes := #[27, 27] }) (_ : a.eval s = .slice oA k oc) (_ : a.eval y = .slice (some ⟨w1.heap.size, 0, none⟩) 1 1) (_ : (k + 1) * 32 ≤ 140737488355328)
      (_ : ∀ v' w', OwnN w' (B + 3) v' (l.take k ++ [(x, xd)]) → ((∀ (p : Addr) u, wr.cell? p = some u → p.block < B + 3 → w'.cell? p = some u) ∧ (∀ g ob, g < B + 3 → wr.heap[g]? = some ob → w'.heap[g]? = some ob) ∧ Below (B + 3) wr w') → K (a.put o.dst v') w'),
      if Region.wanted o (yielded ops a.tmps) = true then Oper.wp Tryz.prog o a (w1.alloc (.cells #[.slice A1 x.length c1, .int .i64 xd] 51)) K Q else E := by
  intro ops o a K Q E hgd s y hop hs hy hroom h
  obtain ⟨i0, hi0, hz0, hz1, hz2⟩ := info_parts nogoodInfo
  have hBW : Below w1.heap.size w1 (w1.alloc (.cells #[.slice A1 x.length c1, .int .i64 xd] 51)) := belowA (Below.refl _ _) _
  have hB2 := belowT hb hBW
  have hor2 := hor.kept (grown_of_below hB2 none) (by cases (Value.slice oA k oc).ownBlock <;> simp)
  have hien2 : ∀ z ∈ its, EntN (w1.alloc (.cells #[.slice A1 x.length c1, .int .i64 xd] 51)) (B + 3) z := fun z hz => (hien z hz).kept (grown_of_below hB2 none) (fun r e => by cases e)
  have hex : EntN (w1.alloc (.cells #[.slice A1 x.length c1, .int .i64 xd] 51)) (B + 3) ((A1, x.length, c1), (x, xd)) := ⟨own_mono (ownF_keep ho1 hBW) (by omega), hx.1⟩
  have hrd : Reads (w1.alloc (.cells #[.slice A1 x.length c1, .int .i64 xd] 51)) (w1.heap.size + 1) 2 (some ⟨w1.heap.size, 0, none⟩) 1 (itemCells [((A1, x.length, c1), (x, xd))]) :=
    ⟨rfl, fun _ => ⟨_, rfl, by simp, cells_at (heap_alloc_new w1 (.cells #[.slice A1 x.length c1, .int .i64 xd] 51)) 0 _ (fun j u hu => by simpa [itemCells] using hu)⟩⟩
  refine step_append_any _ hgd s y _ hop (B + 3) 51 i0 _ 2 32 Tryz.underlying27 hi0 hz0 hz1 hz2 rfl (by omega) (.slice oA k oc) k (itemCells its) hs hor2 _ _ 1 1 _ hy hrd (itemCells_one _) (by simp only [maxLen]; omega) hroom (by have := hb.size; simp; omega) ?_
  intro v' w' g1 g2 _
  have hbl : Below (B + 3) (w1.alloc (.cells #[.slice A1 x.length c1, .int .i64 xd] 51)) w' := below_of_grown g2 (by have := hb.size; simp; omega) (fun r hr => (hor2.lt r hr).1)
  have hbl2 : Below (B + 3) wr w' := (hB2.mono hsz).trans hbl
  refine h v' w' ?_ ⟨fun p u hu hp => by rw [hbl2.cell hp]; exact hu, fun g ob hg hob => by rw [hbl2.block g hg]; exact hob, hbl2⟩
  exact ownN_append hi1 (by rw [hlk]; exact hor2) hien2 hex (by rw [hlk]; exact g1) g2

set_option maxHeartbeats 4000000 in
set_option maxRecDepth 100000 in
theorem clone_calls (bd : Int) (v : Value) (l : List Nogood) (w : World) (hv : NogoodsAt w v l) :
    Calls Tryz.prog 48 #[.agg #[.int .i64 bd, v]] w fun e w' => ∃ v', e = .returned (.agg #[.int .i64 bd, v']) ∧ OwnN w' w.heap.size v' l ∧ Below w.heap.size w w' := by
  obtain ⟨A, n, c, rfl, hn, hm⟩ := hv.form
  obtain ⟨i0, hi0, hz0, hz1, hz2⟩ := info_parts nogoodInfo
  have hroom : n * 32 ≤ 140737488355328 := by obtain ⟨_, _, hv', hl, _⟩ := id hv; injection hv' with _ h2 _; omega
  have HV := Lib.hid hv
  have HN := Lib.hid hn
  clear hv hn
  go_enter Tryz.func48, Tryz.ntmps48
  go_wp2
  go_loopg [12] n (fun gh i wr => ∃ (k : Nat) (ov : Value), k ≤ n ∧ gh = n - k ∧ i = .int .i64 k ∧ Below w.heap.size w wr ∧ w.heap.size + 3 ≤ wr.heap.size ∧ wr.heap[w.heap.size + 2]? = some (.cells #[.int .i64 bd, ov] 29 (0, 0)) ∧ wr.heap[w.heap.size + 1]? = some (.cells #[.int .i64 0, .slice none 0 0] 29 (0, 0)) ∧ OwnN wr (w.heap.size + 3) ov (l.take k))
  case atStart => exact ⟨0, .slice none 0 0, Nat.zero_le _, by omega, by go_num, belowA (belowA (belowA (Below.refl _ _) _) _) _, by simp, by have := heap_alloc_new ((w.alloc (.cells #[.int .i64 bd, .slice A n c] 29)).alloc (.cells #[.int .i64 0, .slice none 0 0] 29)) (.cells #[.int .i64 bd, .slice none 0 0] 29); simpa using this, by have := heap_alloc_new (w.alloc (.cells #[.int .i64 bd, .slice A n c] 29)) (.cells #[.int .i64 0, .slice none 0 0] 29); rw [(belowA (Below.refl _ _) _).block _ (by simp)]; simpa using this, OwnN.nil_ _ _⟩
  case round =>
    obtain ⟨k, ov, hk, hg, rfl, hB, hsz, hb2, hb1, hown⟩ := hrel
    by_cases hlt : k < n
    · obtain ⟨bb, off, xA, xn, xc, x, xd, rfl, c0, hxn, hxm, hxv, c1, hx, hd⟩ := (HV.out.keep hB).at hlt
      have hbr : bb < wr.heap.size := lt_of_cell c0
      obtain ⟨oA, oc, rfl⟩ := hown.form
      have hlk : (l.take k).length = k := by rw [List.length_take]; have := HN.out; omega
      rw [hlk] at hb2 hown
      have k1 : wr.cell? ⟨w.heap.size + 2, 1, none⟩ = some (.slice oA k oc) := by simp [World.cell?, hb2]
      have kf : ∀ j, wr.frozen? ⟨w.heap.size + 2, j, none⟩ = false := fun j => by simp [World.frozen?, hb2]
      have hcl := fun (W : World) (hb : Below wr.heap.size wr W) => cloneF_calls _ x W (hxv.keep hb)
      have HG := Lib.hid hg
      have HB := Lib.hid hB
      have HB2 := Lib.hid hb2
      have HB1 := Lib.hid hb1
      have HOWN := Lib.hid hown
      have HXN := Lib.hid hxn
      have HXV := Lib.hid hxv
      have HX := Lib.hid hx
      have HD := Lib.hid hd
      have HLK := Lib.hid hlk
      have HCL := Lib.hid hcl
      clear hg hB hb2 hb1 hown hxn hxv hx hd hlk hcl
      have hbn : Below wr.heap.size wr (wr.alloc (.cells #[.slice xA xn xc, .int .i64 xd] 51)) := belowA (Below.refl _ _) _
      have j0 : (wr.alloc (.cells #[.slice xA xn xc, .int .i64 xd] 51)).cell? ⟨wr.heap.size, 0, none⟩ = some (.slice xA xn xc) := by simp
      have j1 : (wr.alloc (.cells #[.slice xA xn xc, .int .i64 xd] 51)).cell? ⟨wr.heap.size, 1, none⟩ = some (.int .i64 xd) := by simp
      have j2 := kept hbn k1
      have HBN := Lib.hid hbn
      clear hbn
      go_upto_region 5 with fail
      generalize wr.alloc (.cells #[.slice xA xn xc, .int .i64 xd] 51) = W0 at j0 j1 j2 HBN ⊢
      obtain ⟨its, hi1, hor, hien⟩ := HOWN.out
      rw [HLK.out] at hor
      have HI1 := Lib.hid hi1
      have HOR := Lib.hid hor
      have HIEN := Lib.hid hien
      clear hi1 hor hien
      have hxr : x.length * 16 ≤ 140737488355328 ∧ wr.heap.size ≤ W0.drew.heap.size := ⟨by obtain ⟨_, _, _, hl, _⟩ := HXV.out; exact hl, HBN.out.size⟩
      have HXR := Lib.hid hxr
      clear hxr
      have hz3 : w.heap.size + 2 < w.heap.size + 3 := by omega
      have hroom1 : (k + 1) * 32 ≤ 140737488355328 := by omega
      go_region_law (first
        | (rw [if_pos (by simp [Region.wanted])]; unfold Oper.wp; go_simp; refine (HCL.out _ (Below.drew HBN.out)).mono ?_; rintro e w1 ⟨v1, rfl, hown1, hb1⟩; obtain ⟨A1, c1', rfl⟩ := hown1.form; have m1 := kept hb1 j1; have m2 := kept hb1 j2; have HO1 := Lib.hid hown1; have HBW1 : Hid (Below wr.heap.size wr w1) := belowT (Below.drew HBN.out) hb1; have n1 : w.heap.size + 2 < w1.heap.size := (by have := HBW1.out.size; omega); have n2 : w.heap.size + 1 + 1 < w1.heap.size := (by have := HBW1.out.size; omega); have m3 : w1.cell? ⟨w.heap.size + 1 + 1, 1, none⟩ = some (.slice oA k oc) := m2; clear hown1 hb1)
        | (refine clone_append HO1.out HBW1.out hsz HI1.out HLK.out HOR.out HIEN.out xd HXR.out rfl (.tmp 17) (.tmp 24) rfl (by simp [Act.eval]) (by simp [Act.eval]) hroom1 ?_; intro v5 w5 hown5 hg5; have HO5 := Lib.hid hown5; have HG5 := Lib.hid hg5; have s0 := HG5.out.2.1 (w.heap.size + 2) _ hz3 HB2.out; have s1 : w5.cell? ⟨w.heap.size + 2, 1, none⟩ = some (.slice oA k oc) := (by simp [World.cell?, s0]); have s2 : ∀ j, w5.frozen? ⟨w.heap.size + 2, j, none⟩ = false := (fun j => (by simp [World.frozen?, s0])); have HS0 := Lib.hid s0; clear s0; obtain ⟨A5, c5, hv5⟩ := hown5.form; obtain ⟨L5, hL5⟩ : ∃ L5, L5 = (l.take k ++ [(x, xd)]).length := ⟨_, rfl⟩; rw [← hL5] at hv5; subst hv5; have HL5 := Lib.hid hL5; clear hown5 hg5 hL5))
      all_goals
        go_wp2_with fail
        go_roundg (n - (k + 1))
        case measure => have := HG.out; omega
        case rel =>
          have hset := set_grown (i := 1) HS0.out (.slice A5 L5 c5)
          have htk : l.take (k + 1) = l.take k ++ [(x, xd)] := by rw [List.take_add_one, HX.out]; rfl
          have hbl5 : Below w.heap.size w w5 := HB.out.trans (HG5.out.2.2.mono (by omega))
          have hb1' := HG5.out.2.1 (w.heap.size + 1) _ (by omega) HB1.out
          refine ⟨k + 1, _, by omega, rfl, by go_num, hbl5.trans (below_of_grown hset hbl5.size (fun g hg => by injection hg with hg; omega)), ?_, set_block HS0.out _ _ rfl, ?_, ?_⟩
          · exact Nat.le_trans hsz (Nat.le_trans HG5.out.2.2.size hset.size)
          · rw [hset.block (w.heap.size + 1) (by have := HG5.out.2.2.size; omega) (fun e => by injection e with e; omega)]; exact hb1'
          · rw [htk]
            exact HO5.out.kept hset (fun r e => by injection e with e; omega)
    · obtain ⟨oA, oc, rfl⟩ := hown.form
      have hke : l.take k = l := List.take_of_length_le (by have := HN.out; omega)
      rw [hke] at hown hb2
      have k0 : wr.cell? ⟨w.heap.size + 2, 0, none⟩ = some (.int .i64 bd) := by simp [World.cell?, hb2]
      have k1 : wr.cell? ⟨w.heap.size + 2, 1, none⟩ = some (.slice oA l.length oc) := by simp [World.cell?, hb2]
      have r0 : wr.cell? ⟨w.heap.size + 1, 0, none⟩ = some (.int .i64 0) := by simp [World.cell?, hb1]
      have r1 : wr.cell? ⟨w.heap.size + 1, 1, none⟩ = some (.slice none 0 0) := by simp [World.cell?, hb1]
      have kf : ∀ j, wr.frozen? ⟨w.heap.size + 1, j, none⟩ = false := fun j => by simp [World.frozen?, hb1]
      have HG := Lib.hid hg
      have HB := Lib.hid hB
      have HB2 := Lib.hid hb2
      have HB1 := Lib.hid hb1
      have HOWN := Lib.hid hown
      have HKE := Lib.hid hke
      clear hg hB hb2 hb1 hown hke
      go_wp2_with fail
      have t1 := set_block (i := 0) HB1.out (.int .i64 bd) #[.int .i64 bd, .slice none 0 0] rfl
      have t2 := set_block (i := 1) t1 (.slice oA l.length oc) #[.int .i64 bd, .slice oA l.length oc] rfl
      have gg := World.grownBy.trans (set_grown (i := 0) HB1.out (.int .i64 bd)) (set_grown (i := 1) t1 (.slice oA l.length oc))
      generalize (wr.setCell ⟨w.heap.size + 1, 0, none⟩ (.int .i64 bd)).setCell ⟨w.heap.size + 1, 1, none⟩ (.slice oA l.length oc) = wf at t2 gg ⊢
      have e0 : wf.cell? ⟨w.heap.size + 1, 0, none⟩ = some (.int .i64 bd) := by simp [World.cell?, t2]
      have e1 : wf.cell? ⟨w.heap.size + 1, 1, none⟩ = some (.slice oA l.length oc) := by simp [World.cell?, t2]
      exact bodyPost_ret (v := .agg #[.int .i64 bd, .slice oA l.length oc]) (by simp [results, Tryz.results48, go_sem, e0, e1]) rfl ⟨_, rfl, (HOWN.out.kept gg (fun r e => by injection e with e; omega)).mono (by omega), HB.out.trans (below_of_grown gg HB.out.size (fun g hg => by injection hg with hg; omega))⟩
end Go.Proofs.YtcpajbglcgbolaaGreat
namespace Go.Proofs.YtcpajbglcgbolaaGreat
open Go.RowKit

def badB (x y p : Int) (k : Nat) : Bool := decide (x < 0) || decide (64 ≤ x) || decide (y < 0) || decide (64 ≤ y) || (decide (0 < k) && decide (x ≤ p))
def formedL : Nat → Int → List Fact → Bool
  | _, _, [] => true
  | k, p, (x, y) :: r => if badB x y p k then false else formedL (k + 1) x r
def formedF (l : List Fact) : Bool := formedL 0 0 l

set_option maxHeartbeats 1000000 in
theorem formed_calls (v : Value) (fs : List Fact) (w : World) (hv : FactsAt w v fs) :
    Calls Tryz.prog 47 #[v] w fun e w' => e = .returned (.bool (formedF fs)) ∧ Below w.heap.size w w' := by
  obtain ⟨A, n, c, rfl, hn, hm⟩ := hv.form
  have HV := Lib.hid hv
  have HN := Lib.hid hn
  clear hv hn
  go_enter Tryz.func47, Tryz.ntmps47
  go_wp2
  go_loopg [7] n (fun g i wr => ∃ k p, k ≤ n ∧ g = n - k ∧ i = .int .i64 k ∧ Below w.heap.size w wr ∧ (∀ q, 0 < k → fs[k - 1]? = some q → p = q.1) ∧ formedF fs = formedL k p (fs.drop k))
  case atStart => exact ⟨0, 0, Nat.zero_le _, by omega, rfl, Below.refl _ _, fun _ h => absurd h (by omega), rfl⟩
  case round =>
    obtain ⟨k, p, hk, hg, rfl, hB, hp, hF⟩ := hrel
    have HG := Lib.hid hg
    have HP := Lib.hid hp
    have HF := Lib.hid hF
    clear hg hp hF
    by_cases hlt : k < n
    · obtain ⟨b, off, x, y, rfl, c0, c1, hx, hd⟩ := (HV.out.keep hB).at hlt
      have hbr : b < wr.heap.size := lt_of_cell c0
      have HX := Lib.hid hx
      have HD := Lib.hid hd
      clear hx hd
      by_cases hk0 : 0 < k
      · obtain ⟨b', off', x', y', hA', p0, _, hx', _⟩ := (HV.out.keep hB).at (k := k - 1) (by omega)
        injection hA' with hA'
        injection hA' with hb' ho'
        subst hb' ho'
        have hpx := HP.out _ hk0 hx'
        simp only at hpx
        subst hpx
        clear hx'
        have d0 : decide (0 < k) = true := by simpa using hk0
        go_upto_region 4 with fail
        go_cut [44] (fun s wx => s = .bool (badB x y p k) ∧ Below w.heap.size w wx)
        case first =>
          refine wp_region_quiet_lit (by kernel_rfl) (by kernel_rfl) ?_
          repeat (any_goals (first | go_big_quiet_step (fail) | quiet_step (fail) | (refine wpQuiet_step (fun K hK => ?_); go_simp; split <;> (refine hK _ ?_; clear hK K))))
          all_goals (refine wpQuiet_nil ?_; intro _ hw'; obtain ⟨nq, hw''⟩ := hw'; subst hw'')
          all_goals (go_wp2_with fail; go_meet; exact ⟨by simp [badB, d0] <;> omega, below_drewN (belowA hB _) _⟩)
        case rest =>
          obtain ⟨rfl, hB'⟩ := hcut
          cases hbad : badB x y p k
          · go_wp2
            go_roundg (n - (k + 1))
            case measure => have := HG.out; omega
            case rel =>
              refine ⟨k + 1, x, by omega, rfl, by go_num, hB', fun q _ hq => ?_, ?_⟩
              · rw [Nat.add_sub_cancel, HX.out] at hq; injection hq with hq; rw [← hq]
              · rw [HF.out, HD.out, formedL, hbad]; rfl
          · go_wp2
            go_ret
            exact ⟨by rw [HF.out, HD.out, formedL, hbad]; rfl, hB'⟩
      · have d0 : decide (0 < k) = false := by simpa using hk0
        go_upto_region 4 with fail
        go_cut [44] (fun s wx => s = .bool (badB x y p k) ∧ Below w.heap.size w wx)
        case first =>
          refine wp_region_quiet_lit (by kernel_rfl) (by kernel_rfl) ?_
          repeat (any_goals (first | go_big_quiet_step (fail) | quiet_step (fail) | (refine wpQuiet_step (fun K hK => ?_); go_simp; split <;> (refine hK _ ?_; clear hK K))))
          all_goals (refine wpQuiet_nil ?_; intro _ hw'; obtain ⟨nq, hw''⟩ := hw'; subst hw'')
          all_goals (go_wp2_with fail; go_meet; exact ⟨by simp [badB, d0] <;> omega, below_drewN (belowA hB _) _⟩)
        case rest =>
          obtain ⟨rfl, hB'⟩ := hcut
          cases hbad : badB x y p k
          · go_wp2
            go_roundg (n - (k + 1))
            case measure => have := HG.out; omega
            case rel =>
              refine ⟨k + 1, x, by omega, rfl, by go_num, hB', fun q _ hq => ?_, ?_⟩
              · rw [Nat.add_sub_cancel, HX.out] at hq; injection hq with hq; rw [← hq]
              · rw [HF.out, HD.out, formedL, hbad]; rfl
          · go_wp2
            go_ret
            exact ⟨by rw [HF.out, HD.out, formedL, hbad]; rfl, hB'⟩
    · go_wp2
      go_ret
      exact ⟨by rw [HF.out, List.drop_eq_nil_of_le (by have := HN.out; omega), formedL]; rfl, hB⟩
end Go.Proofs.YtcpajbglcgbolaaGreat
namespace Go.Proofs.YtcpajbglcgbolaaGreat
open Go.RowKit

def errV (n : Int) : Value := if n = 0 then .nilIface else .iface 48 (.int .i64 n)
theorem errV_zero : errV 0 = .nilIface := rfl
theorem errV_ne {n : Int} (h : n ≠ 0) : errV n = .iface 48 (.int .i64 n) := by rw [errV, if_neg h]
@[go_sem] theorem run_err_eql (x : Value) (w : World) : (binOp .eql 36 (.iface 48 x) .nilIface).run Tryz.prog w = .ok (.bool false) w := run_eql_held_nil w _ _ x (by kernel_rfl)
@[go_sem] theorem run_err_neq (x : Value) (w : World) : (binOp .neq 36 (.iface 48 x) .nilIface).run Tryz.prog w = .ok (.bool true) w := run_neq_held_nil w _ _ x (by kernel_rfl)
@[go_sem] theorem run_err_as (v : Value) (w : World) : (Instr.typeAssert (.iface 48 v) 36 48 true).run Tryz.prog w = .ok (.tuple #[v, .bool true]) w := by kernel_rfl

end Go.Proofs.YtcpajbglcgbolaaGreat
namespace Go.Proofs.YtcpajbglcgbolaaGreat
open Go.RowKit

def badDist (b d : Int) : Bool := decide (d < 0) || (decide (0 ≤ b) && decide (b ≤ d)) || (decide (b < 0) && d != 0)
def checkF (b : Int) (l : List Nogood) : Int :=
  if b < -1 ∨ 1099511627776 < b then 1 else if 4096 < l.length then 5 else if l.all (fun x => formedF x.1) = false then 2 else if l.any (fun x => badDist b x.2) then 1 else 0

set_option maxHeartbeats 1000000 in
theorem check_calls (bd : Int) (v : Value) (l : List Nogood) (w : World) (hv : NogoodsAt w v l) :
    Calls Tryz.prog 26 #[.agg #[.int .i64 bd, v]] w fun e w' => e = .returned (errV (checkF bd l)) ∧ Below w.heap.size w w' := by
  obtain ⟨A, n, c, rfl, hn, hm⟩ := hv.form
  have HV := Lib.hid hv
  have HN := Lib.hid hn
  clear hv hn
  go_enter Tryz.func26, Tryz.ntmps26
  by_cases h1 : bd < -1 ∨ 1099511627776 < bd
  · have hfin : checkF bd l = 1 := by rw [checkF, if_pos h1]
    have HFIN := Lib.hid hfin
    clear hfin
    go_wp2
    all_goals (go_ret; exact ⟨by rw [HFIN.out]; rfl, belowA (Below.refl _ _) _⟩)
  · have hb1 : -1 ≤ bd := by omega
    have hb2 : bd ≤ 1099511627776 := by omega
    by_cases h2 : 4096 < n
    · have hfin : checkF bd l = 5 := by rw [checkF, if_neg h1, if_pos (by have := HN.out; omega)]
      have HFIN := Lib.hid hfin
      clear hfin
      clear h1
      go_wp2
      go_ret
      exact ⟨by rw [HFIN.out]; rfl, belowA (Below.refl _ _) _⟩
    · have hfin : checkF bd l = if l.all (fun x => formedF x.1) = false then 2 else if l.any (fun x => badDist bd x.2) then 1 else 0 := by
        rw [checkF, if_neg h1, if_neg (by have := HN.out; omega)]
      have HFIN := Lib.hid hfin
      clear hfin
      clear h1
      go_wp2
      go_loopg [24] n (fun g i wr => ∃ k : Nat, k ≤ n ∧ g = n - k ∧ i = .int .i64 k ∧ Below w.heap.size w wr ∧ wr.cell? ⟨w.heap.size, 0, none⟩ = some (.int .i64 bd) ∧ wr.cell? ⟨w.heap.size, 1, none⟩ = some (.slice A n c) ∧ l.all (fun x => formedF x.1) = (l.drop k).all (fun x => formedF x.1))
      case atStart => exact ⟨0, Nat.zero_le _, by omega, rfl, belowA (Below.refl _ _) _, by simp [World.cell?_alloc_new], by simp [World.cell?_alloc_new], rfl⟩
      case round =>
        obtain ⟨k, hk, hg, rfl, hB, hc0, hc1, hF⟩ := hrel
        have HG := Lib.hid hg
        have HF := Lib.hid hF
        clear hg hF
        by_cases hlt : k < n
        · obtain ⟨b, off, fA, fn, fc, fs, d, rfl, c0, hfn, hfm, hfs, c1, hx, hd⟩ := (HV.out.keep hB).at hlt
          have hbr : b < wr.heap.size := lt_of_cell c0
          have hbw : w.heap.size < wr.heap.size := lt_of_cell hc0
          have HX := Lib.hid hx
          have HD := Lib.hid hd
          have HFS := Lib.hid hfs
          have HFN := Lib.hid hfn
          clear hx hd hfs hfn
          cases hform : formedF fs
          · have HFO := Lib.hid hform
            clear hform
            go_wp2_with (go_at_call 47; refine (formed_calls _ fs _ (HFS.out.keep (belowA (Below.refl _ _) _))).mono ?_; rw [HFO.out]; rintro e w' ⟨rfl, hb'⟩)
            go_ret
            exact ⟨by rw [HFIN.out, HF.out, HD.out]; simp [HFO.out]; rfl, belowT (belowA hB _) hb'⟩
          · have HFO := Lib.hid hform
            clear hform
            go_wp2_with (go_at_call 47; refine (formed_calls _ fs _ (HFS.out.keep (belowA (Below.refl _ _) _))).mono ?_; rw [HFO.out]; rintro e w' ⟨rfl, hb'⟩)
            go_roundg (n - (k + 1))
            case measure => have := HG.out; omega
            case rel => exact ⟨k + 1, by omega, rfl, by go_num, belowT (belowA hB _) hb', kept hb' (kept (belowA (Below.refl _ _) _) hc0), kept hb' (kept (belowA (Below.refl _ _) _) hc1), by rw [HF.out, HD.out]; simp [HFO.out]⟩
        · have hall : l.all (fun x => formedF x.1) = true := by rw [HF.out, List.drop_eq_nil_of_le (by have := HN.out; omega)]; rfl
          have hfin2 : checkF bd l = if l.any (fun x => badDist bd x.2) then 1 else 0 := by rw [HFIN.out, hall]; simp
          have HFIN2 := Lib.hid hfin2
          clear hfin2
          clear hall
          have hbw : w.heap.size < wr.heap.size := lt_of_cell hc0
          go_wp2
          obtain ⟨wo, rfl⟩ : ∃ wo : World, wo = wr := ⟨_, rfl⟩
          go_loopg [37] n (fun g i wr => ∃ k : Nat, k ≤ n ∧ g = n - k ∧ i = .int .i64 k ∧ Below w.heap.size w wr ∧ wr.cell? ⟨w.heap.size, 0, none⟩ = some (.int .i64 bd) ∧ l.any (fun x => badDist bd x.2) = (l.drop k).any (fun x => badDist bd x.2))
          case atStart => exact ⟨0, Nat.zero_le _, by omega, rfl, hB, hc0, rfl⟩
          case round =>
            clear HF HG hlt hc0 hc1 hB hbw
            obtain ⟨j, hj, hg, rfl, hB, hc0, hF⟩ := hrel
            have HG := Lib.hid hg
            have HF := Lib.hid hF
            clear hg hF
            by_cases hlt : j < n
            · obtain ⟨b, off, fA, fn, fc, fs, d, rfl, c0, hfn, hfm, hfs, c1, hx, hd⟩ := (HV.out.keep hB).at hlt
              have hbr : b < wr.heap.size := lt_of_cell c0
              have hbw : w.heap.size < wr.heap.size := lt_of_cell hc0
              have HX := Lib.hid hx
              have HD := Lib.hid hd
              have HFS := Lib.hid hfs
              have HFN := Lib.hid hfn
              clear hx hd hfs hfn
              go_upto_region 14 with fail
              go_cut [65] (fun s wx => s = .bool (badDist bd d) ∧ Below w.heap.size w wx ∧ wx.cell? ⟨w.heap.size, 0, none⟩ = some (.int .i64 bd))
              case first =>
                go_wp2_with fail
                all_goals (go_meet; exact ⟨by rw [Value.bool.injEq, Bool.eq_iff_iff]; simp [badDist] <;> omega, belowA hB _, kept (belowA (Below.refl _ _) _) hc0⟩)
              case rest =>
                obtain ⟨rfl, hB', hc'⟩ := hcut
                cases hbad : badDist bd d
                · go_wp2
                  go_roundg (n - (j + 1))
                  case measure => have := HG.out; omega
                  case rel => exact ⟨j + 1, by omega, rfl, by go_num, hB', hc', by rw [HF.out, HD.out]; simp [hbad]⟩
                · go_wp2
                  go_ret
                  exact ⟨by rw [HFIN2.out, HF.out, HD.out]; simp [hbad]; rfl, hB'⟩
            · go_wp2
              go_ret
              exact ⟨by rw [HFIN2.out, HF.out, List.drop_eq_nil_of_le (by have := HN.out; omega)]; rfl, hB⟩
end Go.Proofs.YtcpajbglcgbolaaGreat
namespace Go.Proofs.YtcpajbglcgbolaaGreat
open Go.RowKit

def leNB (x y : Nogood) : Bool := !decide (cmpN y x < 0)
theorem leNB_iff (x y : Nogood) : leNB x y = true ↔ LtN x y ∨ x = y := by
  unfold leNB
  rw [← leN_iff, ← cmpN_lt]
  simp
def sortN (l : List Nogood) : List Nogood := l.mergeSort leNB
theorem sortN_perm (l : List Nogood) : (sortN l).Perm l := List.mergeSort_perm l _
theorem leN_trans {x y z : Nogood} (a : LtN x y ∨ x = y) (b : LtN y z ∨ y = z) : LtN x z ∨ x = z := by
  rcases a with a | rfl <;> rcases b with b | rfl
  · exact .inl (LtN_trans a b)
  · exact .inl a
  · exact .inl b
  · exact .inr rfl
theorem sortN_sorted (l : List Nogood) : (sortN l).Pairwise (fun x y => LtN x y ∨ x = y) := by
  have := List.pairwise_mergeSort (le := leNB) (fun a b c h1 h2 => by rw [leNB_iff] at *; exact leN_trans h1 h2) (fun a b => by rw [Bool.or_eq_true, leNB_iff, leNB_iff]; rcases LtN_tri a b with h | h | h <;> simp [h]) l
  exact this.imp (fun h => (leNB_iff _ _).1 h)
theorem sortN_unique {a l : List Nogood} (hp : a.Perm l) (hs : a.Pairwise (fun x y => LtN x y ∨ x = y)) : a = sortN l :=
  List.Perm.eq_of_pairwise (fun x y _ _ h1 h2 => by
    rcases h1 with h1 | rfl
    · rcases h2 with h2 | rfl
      · exact absurd (LtN_trans h1 h2) (LtN_irr _)
      · rfl
    · rfl) hs (sortN_sorted l) (hp.trans (sortN_perm l).symm)

theorem insertion_nil (w : World) : Calls Tryz.prog 82 #[.slice none 0 0, .int .i64 0, .int .i64 0, .func (.func 50) #[] #[]] w fun e w' => e = .returned (.tuple #[]) ∧ w = w' := by
  go_enter Tryz.func82, Tryz.ntmps82
  go_wp2
  go_loopg [8] 0 (fun gh iv wr => gh = 0 ∧ iv = .int .i64 1 ∧ wr = w)
  case atStart => exact ⟨rfl, rfl, rfl⟩
  case round =>
    obtain ⟨hg, rfl, rfl⟩ := hrel
    clear hg
    go_wp2
    go_end0
    exact ⟨rfl, rfl⟩
theorem stable_nil (w : World) : Calls Tryz.prog 69 #[.slice none 0 0, .int .i64 0, .func (.func 50) #[] #[]] w fun e w' => e = .returned (.tuple #[]) ∧ w = w' := by
  go_enter Tryz.func69, Tryz.ntmps69
  go_wp2
  go_loopg [7, 8] 0 (fun gh av bv wr => gh = 0 ∧ av = .int .i64 0 ∧ bv = .int .i64 20 ∧ wr = w)
  case atStart => exact ⟨rfl, rfl, rfl, rfl⟩
  case round =>
    obtain ⟨hg, rfl, rfl, rfl⟩ := hrel
    clear hg
    go_wp2_with (go_at_call 82; refine (insertion_nil _).mono ?_; rintro e w1 ⟨rfl, rfl⟩)
    go_loopg [6, 7, 8, 9] 0 (fun gh sv av bv mv w2 => gh = 0 ∧ sv = .int .i64 20 ∧ w2 = wr)
    case atStart => exact ⟨rfl, rfl, rfl⟩
    case round =>
      obtain ⟨hg, rfl, rfl⟩ := hrel
      clear hg
      go_wp2
      go_end0
      exact ⟨rfl, rfl⟩
theorem sortStable_nil (w : World) : Calls Tryz.prog 49 #[.slice none 0 0, .func (.func 50) #[] #[]] w fun e w' => e = .returned (.tuple #[]) ∧ w = w' := by
  go_enter Tryz.func49, Tryz.ntmps49
  go_wp2_with (go_at_call 69; refine (stable_nil _).mono ?_; rintro e w1 ⟨rfl, rfl⟩)
  go_end0
  exact ⟨rfl, rfl⟩

theorem itemCells_get (its : List Item) (j : Nat) : (itemCells its)[j]? = (its[j / 2]?).map (fun x => if j % 2 = 0 then Value.slice x.1.1 x.1.2.1 x.1.2.2 else .int .i64 x.2.2) := by
  cases h : its[j / 2]? with
  | none =>
    rw [List.getElem?_eq_none_iff] at h
    rw [List.getElem?_eq_none (by rw [itemCells_length]; omega)]
    rfl
  | some x =>
    obtain ⟨a, b⟩ := itemCells_at its (j / 2) x h
    rcases Nat.mod_two_eq_zero_or_one j with hm | hm
    · rw [show j / 2 * 2 = j by omega] at a
      rw [a]; simp [hm]
    · rw [show j / 2 * 2 + 1 = j by omega] at b
      rw [b]; simp [hm]
theorem row_own {w : World} {g cap N base : Nat} {f : Nat → Item} (h : RowI w g cap N f) (hb : base ≤ g) (hc : cap ≤ maxLen) : w.ownsRow base 51 2 (.slice (some ⟨g, 0, none⟩) N cap) N (itemCells ((List.range N).map f)) := by
  obtain ⟨cur, h1, h2, h3, h4⟩ := h
  refine ⟨by rw [itemCells_length]; simp, .inr ⟨g, cap, cur, rfl, hb, h1, h3, hc, h2, ?_⟩⟩
  refine List.ext_getElem? (fun j => ?_)
  rw [itemCells_get, List.getElem?_map, List.getElem?_take]
  by_cases hj : j < N * 2
  · rw [if_pos hj, List.getElem?_range (by omega)]
    obtain ⟨a, b⟩ := h4 (j / 2) (by omega)
    rcases Nat.mod_two_eq_zero_or_one j with hm | hm
    · rw [show j / 2 * 2 = j by omega] at a
      simp [hm, a]
    · rw [show j / 2 * 2 + 1 = j by omega] at b
      simp [hm, b]
  · rw [if_neg hj, List.getElem?_eq_none (by simp; omega)]
    rfl
theorem sortOwn_calls (base : Nat) (v : Value) (l : List Nogood) (w : World) (h : OwnN w base v l) (hN : l.length ≤ 100000) :
    Calls Tryz.prog 49 #[v, cmpV] w fun e w' => e = .returned (.tuple #[]) ∧ OwnN w' base v (sortN l) ∧ w.grownBy w' v.ownBlock := by
  by_cases hv : v = .slice none 0 0
  · subst hv
    have hl : l = [] := by
      obtain ⟨its, h1, ho, _⟩ := h
      rcases ho.2 with ⟨_, h0⟩ | ⟨g, cap, cur, hv, _⟩
      · exact List.length_eq_zero_iff.1 h0
      · injection hv with hv; cases hv
    subst hl
    refine (sortStable_nil w).mono ?_
    rintro e w' ⟨rfl, rfl⟩
    exact ⟨rfl, by rw [show sortN [] = [] by simp [sortN]]; exact h, World.grownBy.refl _ _⟩
  · obtain ⟨g, cap, f, rfl, hbg, hr, hgd, hl, hen, hcm⟩ := h.row hv
    refine (sortStable_calls ordI g cap l.length f w hr hgd hN).mono ?_
    rintro e w' ⟨rfl, f', hr', hp, hw, hs, hg⟩
    have hlist : (List.range l.length).map (fun k => (f' k).2) = sortN l := by
      refine sortN_unique ?_ ?_
      · have h2 := hp.map (·.2)
        rw [List.map_map, List.map_map] at h2
        have e1 : (List.range l.length).map ((fun x : Item => x.2) ∘ f) = l := hl
        rw [e1] at h2
        exact h2
      · rw [List.pairwise_map]
        refine List.Pairwise.imp_of_mem ?_ (List.pairwise_lt_range (n := l.length))
        intro a b ha hb' hab
        have := hs a b (Nat.zero_le _) hab (List.mem_range.1 hb')
        rw [leI_iff, leN_iff] at this
        exact this
    have hlen : (sortN l).length = l.length := (sortN_perm l).length_eq
    obtain ⟨cur, hcur, _⟩ := id hr
    refine ⟨rfl, ⟨(List.range l.length).map f', by rw [List.map_map]; exact hlist, by rw [hlen]; exact row_own hr' hbg hcm, fun x hx => ?_⟩, hg⟩
    obtain ⟨k, hk, rfl⟩ := List.mem_map.1 hx
    obtain ⟨k', _, h2, e⟩ := hw.2 k (Nat.zero_le _) (List.mem_range.1 hk)
    rw [e]
    exact (hen k' h2).other hg hcur

theorem OwnN.lt {w : World} {base : Nat} {v : Value} {l : List Nogood} (h : OwnN w base v l) : ∀ r, v.ownBlock = some r → base ≤ r ∧ r < w.heap.size := by
  obtain ⟨_, _, ho, _⟩ := h
  exact fun r hr => ho.lt r hr
def sortC (bd : Int) (l : List Nogood) : List Nogood := if checkF bd l = 0 then sortN l else l
theorem checkF_len {bd : Int} {l : List Nogood} (h : checkF bd l = 0) : l.length ≤ 4096 := by
  unfold checkF at h
  split at h
  · cases h
  · split at h
    · cases h
    · omega


set_option maxHeartbeats 4000000 in
set_option maxRecDepth 100000 in
theorem sortC_calls (bd : Int) (v : Value) (l : List Nogood) (w : World) (hv : NogoodsAt w v l) :
    Calls Tryz.prog 27 #[.agg #[.int .i64 bd, v]] w fun e w' => ∃ v', e = .returned (.agg #[.int .i64 bd, v']) ∧ OwnN w' w.heap.size v' (sortC bd l) ∧ Below w.heap.size w w' := by
  obtain ⟨A, n, c, rfl, hn, hm⟩ := hv.form
  obtain ⟨W0, hW0⟩ : ∃ W0, W0 = (w.alloc (.cells #[.int .i64 bd, .slice A n c] 29)).alloc (.cells #[.int .i64 0, .slice none 0 0] 29) := ⟨_, rfl⟩
  have hBW : Below w.heap.size w W0 := by rw [hW0]; exact belowA (belowA (Below.refl _ _) _) _
  have p0 : W0.cell? ⟨w.heap.size, 0, none⟩ = some (.int .i64 bd) := by rw [hW0]; simp
  have p1 : W0.cell? ⟨w.heap.size, 1, none⟩ = some (.slice A n c) := by rw [hW0]; simp
  have hrb : W0.heap[w.heap.size + 1]? = some (.cells #[.int .i64 0, .slice none 0 0] 29 (0, 0)) := by
    rw [hW0]
    have := heap_alloc_new (w.alloc (.cells #[.int .i64 bd, .slice A n c] 29)) (.cells #[.int .i64 0, .slice none 0 0] 29)
    simpa using this
  have hsz : w.heap.size + 2 = W0.heap.size := by rw [hW0]; simp
  have hv0 := hv.keep hBW
  have hcl := clone_calls bd _ l _ hv0
  have HV := Lib.hid hv
  have HN := Lib.hid hn
  have HW0 := Lib.hid hW0
  have HBW := Lib.hid hBW
  have HRB := Lib.hid hrb
  have HV0 := Lib.hid hv0
  have HCL := Lib.hid hcl
  have HSZ := Lib.hid hsz
  clear hv hn hW0 hBW hrb hv0 hcl hsz
  go_enter Tryz.func27, Tryz.ntmps27
  go_upto_region 1 with fail
  rw [← HW0.out]
  go_upto_region 2 with (go_at_call 48; refine HCL.out.mono ?_; rintro e w1 ⟨v1, rfl, hown, hb1⟩; obtain ⟨A1, c1, rfl⟩ := hown.form; obtain ⟨n1, hn1⟩ : ∃ n1, n1 = l.length := ⟨_, rfl⟩; rw [← hn1] at hown ⊢; have HOWN := Lib.hid hown; have HB1 := Lib.hid hb1; have HN1 := Lib.hid hn1; clear hown hb1 hn1)
  have hown := HOWN.out
  have hb1 := HB1.out
  have hn1 := HN1.out
  obtain ⟨W2, hW2⟩ : ∃ W2, W2 = w1.alloc (.cells #[.int .i64 bd, .slice A1 n1 c1] 29) := ⟨_, rfl⟩
  rw [← hW2]
  have hB2 : Below w1.heap.size w1 W2 := by rw [hW2]; exact belowA (Below.refl _ _) _
  have q3 : W2.heap[w1.heap.size]? = some (.cells #[.int .i64 bd, .slice A1 n1 c1] 29 (0, 0)) := by rw [hW2]; exact heap_alloc_new _ _
  have hB02 := belowT hb1 hB2
  have q0 := kept hB02 p0
  have q1 := kept hB02 p1
  have hlt1 := hown.lt
  have hck := check_calls bd _ l _ (HV0.out.keep hB02)
  have hown2 := hown.keep hB2
  have hsz1 : w1.heap.size < W2.heap.size := by rw [hW2]; simp
  have hs01 := hb1.size
  by_cases hz : checkF bd l = 0
  · have hso : sortC bd l = sortN l := if_pos hz
    have hlen := checkF_len hz
    rw [hz, errV_zero] at hck
    clear hown hb1 hn1
    have HW2 := Lib.hid hW2
    have HB2 := Lib.hid hB2
    have HQ3 := Lib.hid q3
    have HB02 := Lib.hid hB02
    have HLT1 := Lib.hid hlt1
    have HCK := Lib.hid hck
    have HOWN2 := Lib.hid hown2
    have HZ := Lib.hid hz
    have HSO := Lib.hid hso
    have HLEN := Lib.hid hlen
    clear hW2 hB2 q3 hB02 hlt1 hck hown2 hz hso hlen
    go_upto_region 4 with (go_at_call 26; refine HCK.out.mono ?_; rintro e w3 ⟨rfl, hb3⟩)
    have s3 := hb3.block _ hsz1
    rw [HQ3.out] at s3
    have r0 : w3.cell? ⟨w1.heap.size, 0, none⟩ = some (.int .i64 bd) := by simp [World.cell?, s3]
    have r1 : w3.cell? ⟨w1.heap.size, 1, none⟩ = some (.slice A1 n1 c1) := by simp [World.cell?, s3]
    have hst := sortOwn_calls _ _ l w3 (HOWN2.out.keep hb3) (by have := HLEN.out; omega)
    have HST := Lib.hid hst
    have HB3 := Lib.hid hb3
    have HS3 := Lib.hid s3
    clear hst hb3 s3
    go_upto_region 5 with (go_at_call 49; refine HST.out.mono ?_; rintro e w4 ⟨rfl, hown4, hg4⟩)
    have hne : ∀ b, b < W0.heap.size ∨ w1.heap.size ≤ b → some b ≠ (Value.slice A1 n1 c1).ownBlock := fun b hb e => by have := HLT1.out b e.symm; omega
    have s4 := hg4.block w1.heap.size (by have := HB3.out.size; omega) (hne _ (.inr (Nat.le_refl _)))
    rw [HS3.out] at s4
    have k0 : w4.cell? ⟨w1.heap.size, 0, none⟩ = some (.int .i64 bd) := by simp [World.cell?, s4]
    have k1 : w4.cell? ⟨w1.heap.size, 1, none⟩ = some (.slice A1 n1 c1) := by simp [World.cell?, s4]
    have b3 : Below W0.heap.size W0 w3 := belowT HB02.out HB3.out
    have b4 : Below W0.heap.size w3 w4 := below_of_grown hg4 b3.size (fun r e => (HLT1.out r e).1)
    have b04 := b3.trans b4
    have t4 := b04.block (w.heap.size + 1) (by have := HSZ.out; omega)
    rw [HRB.out] at t4
    have m0 : w4.cell? ⟨w.heap.size + 1, 0, none⟩ = some (.int .i64 0) := by simp [World.cell?, t4]
    have m1 : w4.cell? ⟨w.heap.size + 1, 1, none⟩ = some (.slice none 0 0) := by simp [World.cell?, t4]
    have kf : ∀ j, w4.frozen? ⟨w.heap.size + 1, j, none⟩ = false := fun j => by simp [World.frozen?, t4]
    have bw := belowT HBW.out b04
    have HOWN4 := Lib.hid hown4
    have HG4 := Lib.hid hg4
    have HS4 := Lib.hid s4
    have B3 := Lib.hid b3
    have B4 := Lib.hid b4
    have B04 := Lib.hid b04
    have T4 := Lib.hid t4
    have BW := Lib.hid bw
    have HNE := Lib.hid hne
    clear hown4 hg4 s4 b3 b4 b04 t4 bw hne
    go_wp2_with fail
    have t1 := set_block (i := 0) T4.out (.int .i64 bd) #[.int .i64 bd, .slice none 0 0] rfl
    have t2 := set_block (i := 1) t1 (.slice A1 n1 c1) #[.int .i64 bd, .slice A1 n1 c1] rfl
    have gg := World.grownBy.trans (set_grown (i := 0) T4.out (.int .i64 bd)) (set_grown (i := 1) t1 (.slice A1 n1 c1))
    generalize (w4.setCell ⟨w.heap.size + 1, 0, none⟩ (.int .i64 bd)).setCell ⟨w.heap.size + 1, 1, none⟩ (.slice A1 n1 c1) = wf at t2 gg ⊢
    have e0 : wf.cell? ⟨w.heap.size + 1, 0, none⟩ = some (.int .i64 bd) := by simp [World.cell?, t2]
    have e1 : wf.cell? ⟨w.heap.size + 1, 1, none⟩ = some (.slice A1 n1 c1) := by simp [World.cell?, t2]
    refine bodyPost_ret (v := .agg #[.int .i64 bd, .slice A1 n1 c1]) (by simp [results, Tryz.results27, go_sem, e0, e1]) rfl ⟨_, rfl, ?_, ?_⟩
    · rw [HSO.out]; exact (HOWN4.out.kept gg (fun r e => by injection e with e; have := HSZ.out; omega)).mono (by have := HSZ.out; omega)
    · exact BW.out.trans (below_of_grown gg BW.out.size (fun g hg => by injection hg with hg; omega))
  · have hso : sortC bd l = l := if_neg hz
    obtain ⟨z, hzz⟩ : ∃ z, checkF bd l = z := ⟨_, rfl⟩
    rw [hzz] at hck hz
    rw [errV_ne hz] at hck
    clear hown hb1 hn1
    have HW2 := Lib.hid hW2
    have HB2 := Lib.hid hB2
    have HQ3 := Lib.hid q3
    have HB02 := Lib.hid hB02
    have HLT1 := Lib.hid hlt1
    have HCK := Lib.hid hck
    have HOWN2 := Lib.hid hown2
    have HZ := Lib.hid hz
    have HSO := Lib.hid hso
    have HZZ := Lib.hid hzz
    clear hW2 hB2 q3 hB02 hlt1 hck hown2 hz hso hzz
    go_upto_region 3 with (go_at_call 26; refine HCK.out.mono ?_; rintro e w3 ⟨rfl, hb3⟩)
    have s3 := hb3.block _ hsz1
    rw [HQ3.out] at s3
    have k0 : w3.cell? ⟨w1.heap.size, 0, none⟩ = some (.int .i64 bd) := by simp [World.cell?, s3]
    have k1 : w3.cell? ⟨w1.heap.size, 1, none⟩ = some (.slice A1 n1 c1) := by simp [World.cell?, s3]
    have b04 : Below W0.heap.size W0 w3 := belowT HB02.out hb3
    have t4 := b04.block (w.heap.size + 1) (by have := HSZ.out; omega)
    rw [HRB.out] at t4
    have m0 : w3.cell? ⟨w.heap.size + 1, 0, none⟩ = some (.int .i64 0) := by simp [World.cell?, t4]
    have m1 : w3.cell? ⟨w.heap.size + 1, 1, none⟩ = some (.slice none 0 0) := by simp [World.cell?, t4]
    have kf : ∀ j, w3.frozen? ⟨w.heap.size + 1, j, none⟩ = false := fun j => by simp [World.frozen?, t4]
    have bw := belowT HBW.out b04
    have hown4 := HOWN2.out.keep hb3
    have HOWN4 := Lib.hid hown4
    have HB3 := Lib.hid hb3
    have HS3 := Lib.hid s3
    have B04 := Lib.hid b04
    have T4 := Lib.hid t4
    have BW := Lib.hid bw
    clear hown4 hb3 s3 b04 t4 bw
    go_wp2_with fail
    have t1 := set_block (i := 0) T4.out (.int .i64 bd) #[.int .i64 bd, .slice none 0 0] rfl
    have t2 := set_block (i := 1) t1 (.slice A1 n1 c1) #[.int .i64 bd, .slice A1 n1 c1] rfl
    have gg := World.grownBy.trans (set_grown (i := 0) T4.out (.int .i64 bd)) (set_grown (i := 1) t1 (.slice A1 n1 c1))
    generalize (w3.setCell ⟨w.heap.size + 1, 0, none⟩ (.int .i64 bd)).setCell ⟨w.heap.size + 1, 1, none⟩ (.slice A1 n1 c1) = wf at t2 gg ⊢
    have e0 : wf.cell? ⟨w.heap.size + 1, 0, none⟩ = some (.int .i64 bd) := by simp [World.cell?, t2]
    have e1 : wf.cell? ⟨w.heap.size + 1, 1, none⟩ = some (.slice A1 n1 c1) := by simp [World.cell?, t2]
    refine bodyPost_ret (v := .agg #[.int .i64 bd, .slice A1 n1 c1]) (by simp [results, Tryz.results27, go_sem, e0, e1]) rfl ⟨_, rfl, ?_, ?_⟩
    · rw [HSO.out]; exact (HOWN4.out.kept gg (fun r e => by injection e with e; have := HSZ.out; omega)).mono (by have := HSZ.out; omega)
    · exact BW.out.trans (below_of_grown gg BW.out.size (fun g hg => by injection hg with hg; omega))
end Go.Proofs.YtcpajbglcgbolaaGreat
namespace Go.Proofs.YtcpajbglcgbolaaGreat.Am
open Go.RowKit
theorem kin_below {w w' : World} (h : Below w.heap.size w w') : Kin w (fun _ => False) w' := ⟨h.os, h.tape, h.output, h.size, fun b hb _ => h.block b hb⟩
theorem enter_of {f : FuncId} {fn : Func} {c : Code} (hf : Tryz.prog.funcs[f]? = some fn) (hb : fn.body = some c) (hname : (fn.name == "runtime.NumGoroutine") = false) (vs : Array Value) (w : World) : (callFunc f vs).run cx.P w = .ok (.enter f vs) w := by
  have hf' : cx.P.funcs[f]? = some fn := hf
  simp only [callFunc, Sem.run_bind, program, Sem.run, Result.andThen_ok, hf', hname, hb]
  rfl
theorem acall_elder {f : FuncId} {fn : Func} {c : Code} {args : List AV} {r : AV} (hf : Tryz.prog.funcs[f]? = some fn) (hb : fn.body = some c) (hname : (fn.name == "runtime.NumGoroutine") = false)
    (h : ∀ (w : World) (O : Nat → Prop) (cargs : Array Value), (∀ b, O b → b < w.heap.size) → cargs.toList.length = args.length → (∀ (j : Nat) (x : AV) (v : Value), args[j]? = some x → cargs[j]? = some v → RV w nov (mO O) x v) →
      Calls Tryz.prog f cargs w (fun e w' => ∃ v, e = .returned v ∧ RV w' nov (mO O) r v ∧ Below w.heap.size w w')) : ACall cx f args r := by
  refine ⟨enter_of hf hb hname, fun w O cargs hg _ hO hs hr => ?_⟩
  refine Calls.mono (h w O cargs (fun b hb => (hO b hb).1) (by simpa using hs) hr) ?_
  rintro e w' ⟨v, h1, h2, h3⟩
  exact ⟨v, h1, h2, kin_below h3, trivial⟩
def SzN (l : List Nogood) : Prop := l.length * 32 ≤ 140737488355328 ∧ ∀ x ∈ l, x.1.length * 16 ≤ 140737488355328
def aC (bd : Int) (l : List Nogood) : AV := .agg [.c (.int .i64 bd), .sl 2 (l.map cN)]
theorem cert_arg {w : World} {vs : Shp} {m : MM} {bd : Int} {l : List Nogood} {v : Value} (h : RV w vs m (aC bd l) v) (hl : SzN l) : ∃ nv, v = .agg #[.int .i64 bd, nv] ∧ NogoodsAt w nv l := by
  obtain ⟨us, rfl, h1, h2⟩ := rv_agg h
  have hs : us.size = 2 := h1.symm
  have g0 := h2 0 _ us[0] rfl (Array.getElem?_eq_getElem (by omega))
  have g1 := h2 1 _ us[1] rfl (Array.getElem?_eq_getElem (by omega))
  refine ⟨us[1], ?_, rv_nogoods g1 hl.1 hl.2⟩
  rw [← rv_c g0]
  congr 1
  exact Array.ext (by simp [hs]) (fun i h1 h2 => by
    have : i = 0 ∨ i = 1 := by omega
    rcases this with rfl | rfl <;> simp)
theorem args1 {cargs : Array Value} (h : cargs.toList.length = 1) : ∃ a, cargs = #[a] := by
  obtain ⟨a, ha⟩ := List.length_eq_one_iff.1 h
  exact ⟨a, Array.ext' ha⟩
theorem row_rv {w : World} {base E sz n : Nat} {v : Value} {xs : List Value} {O : Nat → Prop} {els : List (List AV)} (h : w.ownsRow base E sz v n xs) (hO : ∀ b, O b → b < base) (hl : els.length = n) (hmax : n ≤ 140737488355328) (hfr : FrL els) (hsz : ∀ (k : Nat) (e : List AV), els[k]? = some e → e.length = sz)
    (hc : ∀ (k j : Nat) (e : List AV) (y : AV), els[k]? = some e → e[j]? = some y → ∃ u, xs[k * sz + j]? = some u ∧ u.oneCell' = true ∧ RV w nov (mO O) y u) : RV w nov (mO O) (.sl sz els) v := by
  rcases id h.2 with ⟨rfl, h0⟩ | ⟨g, cap, cur, rfl, hb, hh, hnc, _, _, htake⟩
  · obtain rfl : els = [] := List.length_eq_zero_iff.1 (by omega)
    exact nil_rv _ _
  · have hcell : ∀ (k j : Nat) (e : List AV) (y : AV), els[k]? = some e → e[j]? = some y → ∃ u, w.cell? ⟨g, 0 + (k * sz + j), none⟩ = some u ∧ u.oneCell' = true ∧ RV w nov (mO O) y u := fun k j e y hk hj => by
      obtain ⟨u, u1, u2, u3⟩ := hc k j e y hk hj
      refine ⟨u, ?_, u2, u3⟩
      rw [← htake, List.getElem?_take] at u1
      split at u1
      · rw [Nat.zero_add]
        simp only [World.cell?, hh]
        simpa using u1
      · cases u1
    have := RV.sl (w := w) (vs := nov) (m := mO O) (sz := sz) (l := els) (A := some ⟨g, 0, none⟩) (cap := cap) (b := g) (off := 0) (f := fun k j => (w.cell? ⟨g, 0 + (k * sz + j), none⟩).getD undef)
      (fun _ => ⟨rfl, fun ho => ?_, lt_of_block hh⟩) (by omega) (by omega) hsz (fun k j e y hk hj => ?_) (fun k j e y hk hj => ?_) hfr
    · rw [hl] at this
      exact this
    · have := hO g (owned_nov.1 ho)
      omega
    · obtain ⟨u, u1, u2, _⟩ := hcell k j e y hk hj
      rw [u1]
      exact ⟨rfl, u2⟩
    · obtain ⟨u, u1, _, u3⟩ := hcell k j e y hk hj
      rw [u1]
      exact u3
theorem ownF_rv {w : World} {base : Nat} {v : Value} {l : List Fact} {O : Nat → Prop} (h : OwnF w base v l) (hO : ∀ b, O b → b < base) (hl : l.length * 16 ≤ 140737488355328) : RV w nov (mO O) (.sl 2 (l.map cF)) v := by
  refine row_rv h hO (by simp) (by omega) (frl_cF l) (fun k e hk => ?_) (fun k j e y hk hj => ?_)
  · obtain ⟨x, _, rfl⟩ := get_map hk
    rfl
  · obtain ⟨x, hx, rfl⟩ := get_map hk
    obtain ⟨a, b⟩ := factCells_at l k x hx
    match j, hj with
    | 0, hj => simp [cF] at hj; subst hj; exact ⟨_, a, rfl, .c _⟩
    | 1, hj => simp [cF] at hj; subst hj; exact ⟨_, b, rfl, .c _⟩
    | j + 2, hj => simp [cF] at hj
theorem ownN_rv {w : World} {base : Nat} {v : Value} {l : List Nogood} {O : Nat → Prop} (h : OwnN w base v l) (hO : ∀ b, O b → b < base) (hl : l.length * 32 ≤ 140737488355328) : RV w nov (mO O) (.sl 2 (l.map cN)) v := by
  obtain ⟨its, h1, ho, h3⟩ := h
  have hlen : its.length = l.length := by rw [← h1]; simp
  refine row_rv ho hO (by simp) (by omega) (frl_cN l) (fun k e hk => ?_) (fun k j e y hk hj => ?_)
  · obtain ⟨x, _, rfl⟩ := get_map hk
    rfl
  · obtain ⟨x, hx, rfl⟩ := get_map hk
    have hk' : k < its.length := by rw [hlen]; exact (List.getElem?_eq_some_iff.1 hx).1
    have hit : its[k]? = some its[k] := List.getElem?_eq_getElem hk'
    have hx2 : its[k].2 = x := by
      rw [← h1, List.getElem?_map, hit] at hx
      injection hx
    obtain ⟨a, b⟩ := itemCells_at its k _ hit
    obtain ⟨e1, e2⟩ := h3 its[k] (List.getElem_mem _)
    rw [hx2] at b e1 e2
    match j, hj with
    | 0, hj => simp [cN] at hj; subst hj; exact ⟨_, a, rfl, ownF_rv e1 hO e2⟩
    | 1, hj => simp [cN] at hj; subst hj; exact ⟨_, b, rfl, .c _⟩
    | j + 2, hj => simp [cN] at hj
theorem cert_rv {w : World} {O : Nat → Prop} {bd : Int} {l : List Nogood} {nv : Value} (h : RV w nov (mO O) (.sl 2 (l.map cN)) nv) : RV w nov (mO O) (aC bd l) (.agg #[.int .i64 bd, nv]) := by
  refine .agg rfl (fun j x u hx hu => ?_)
  match j, hx, hu with
  | 0, hx, hu => simp at hx hu; subst hx hu; exact .c _
  | 1, hx, hu => simp at hx hu; subst hx hu; exact h
  | j + 2, hx, hu => simp at hx
theorem sort_A (bd : Int) (l : List Nogood) (hl : SzN l) : ACall cx 27 [aC bd l] (aC bd (sortC bd l)) := by
  refine acall_elder Tryz.func27 rfl (by decide) (fun w O cargs hO hs hr => ?_)
  obtain ⟨a, rfl⟩ := args1 hs
  obtain ⟨nv, rfl, hn⟩ := cert_arg (hr 0 _ a rfl rfl) hl
  refine (sortC_calls bd nv l w hn).mono ?_
  rintro e w' ⟨v', rfl, ho, hb⟩
  have hlen : (sortC bd l).length = l.length := by
    unfold sortC
    split
    · exact (sortN_perm l).length_eq
    · rfl
  exact ⟨_, rfl, cert_rv (ownN_rv ho hO (by rw [hlen]; exact hl.1)), hb⟩
def szN (l : List Nogood) : Bool := decide (l.length * 32 ≤ 140737488355328) && l.all fun x => decide (x.1.length * 16 ≤ 140737488355328)
def M_certSort (c : GCertificate) : Option GCertificate := if szN c.Nogoods = true then some { Bound := c.Bound, Nogoods := sortC c.Bound c.Nogoods } else none
theorem A_certSort (c : GCertificate) {r1 : GCertificate} (h : M_certSort c = some r1) : ACall cx 27 [.agg [.c (.int .i64 c.Bound), .sl 2 (c.Nogoods.map cN)]] (.agg [.c (.int .i64 r1.Bound), .sl 2 (r1.Nogoods.map cN)]) := by
  unfold M_certSort at h
  split at h
  · rename_i hz
    cases h
    rw [szN, Bool.and_eq_true, decide_eq_true_iff, List.all_eq_true] at hz
    exact sort_A c.Bound c.Nogoods ⟨hz.1, fun x hx => of_decide_eq_true (hz.2 x hx)⟩
  · cases h
theorem certSort_perm (b : Int) (l : List Nogood) : (sortC b l).Perm l := by
  unfold sortC
  split
  · exact sortN_perm l
  · exact .refl _
end Go.Proofs.YtcpajbglcgbolaaGreat.Am
namespace Go.Proofs.YtcpajbglcgbolaaGreat.Am
set_option maxHeartbeats 16000000
set_option maxRecDepth 100000
open Go.RowKit
theorem zg_XDOrd {P : Prop} (h : P := by repeat (first | exact True.intro | exact gb_nil rfl rfl | refine gb_some ⟨rfl, rfl, rfl⟩ ?_ | refine And.intro ?_ ?_ | refine gw_ren rfl rfl rfl rfl rfl ?_ | exact gw_oren rfl rfl rfl rfl rfl | exact gw_opren rfl rfl rfl rfl rfl | exact gw_onil rfl rfl | refine gw_pren rfl rfl rfl rfl rfl | exact gw_thaw rfl rfl rfl | refine gw_tup ?_ | exact GWL.nil | exact gwll_nil | exact gw_c | exact GW.sl | exact GW.nil | exact gwll_same rfl FrI.h | refine GWL.cons ?_ ?_ | refine gwll_cons ?_ ?_ | (refine gw_own3 rfl rfl rfl FrI.h ?_ ?_ ?_) | exact GW.fr FrV.h | exact GW.fr (by assumption) | refine gw_agg ?_ | refine gw_clo ?_ | refine gw_ptr rfl rfl rfl ?_ | (refine gw_own rfl rfl rfl ?_ FrI.h ?_ ?_) | assumption | omega | rfl | (rw [List.length_map, ← List.length_append]; assumption) | (refine gwll_same ?_ FrI.h; (simp [cGTask, cI, cF, cGOp, cGEffect, cGCertificate, cN] <;> fail)) | (rw [List.map_set]; refine gwll_set (by first | rfl | omega | simp) ?_ ?_) | refine gwll_set (by first | rfl | omega | simp) ?_ ?_ | (rw [List.map_replicate]; refine gwll_rep ?_) | refine gwll_rep ?_ | (rw [List.map_append]; refine gwll_append ?_ ?_) | refine gwll_append ?_ ?_ | (simp [cGTask, cI, cF, cGOp, cGEffect, cGCertificate, cN, take_len_map] <;> fail) | (rw [List.drop_zero, List.take_of_length_le] <;> first | rfl | (simp [cGTask, cI, cF, cGOp, cGEffect, cGCertificate, cN] <;> fail)) | (simp; omega) | (simp only [List.length_map, List.length_append, List.drop_zero, List.length_cons, List.length_nil, Nat.zero_add, Nat.add_zero] at *; omega))) : P := h
theorem ci_XDOrd {p K : Prop} (k : K) (h : p := by first | rfl | exact ⟨rfl, rfl⟩ | exact BW.fr FrV.h | (refine BW.fr ?_; assumption) | (refine ⟨rfl, ?_⟩; (simp [cGTask, cI, cF, cGOp, cGEffect, cGCertificate, cN, take_len_map]; done)) | (refine RowK.same ?_ FrI.h; first | rfl | (simp [cGTask, cI, cF, cGOp, cGEffect, cGCertificate, cN, take_len_map]; done)) | (refine row_part1 ?_; (repeat (first | exact BWL.nil | exact bwll_nil | exact bw_c | exact BW.sl | exact BW.nil | exact bwll_same rfl FrI.h | refine BWL.cons ?_ ?_ | refine bwll_cons ?_ ?_ | (refine bw_own3 rfl rfl rfl FrI.h ?_ ?_ ?_) | exact BW.fr FrV.h | exact BW.fr (by assumption) | refine bw_agg ?_ | refine bw_clo ?_ | refine bw_ptr rfl rfl rfl ?_ | (refine bw_own rfl rfl rfl ?_ FrI.h ?_ ?_) | assumption | omega | rfl | (rw [List.length_map, ← List.length_append]; assumption) | (refine bwll_same ?_ FrI.h; (simp [cGTask, cI, cF, cGOp, cGEffect, cGCertificate, cN] <;> fail)) | (rw [List.map_set]; refine bwll_set (by first | rfl | omega | simp) ?_ ?_) | refine bwll_set (by first | rfl | omega | simp) ?_ ?_ | (rw [List.map_replicate]; refine bwll_rep ?_) | refine bwll_rep ?_ | (rw [List.map_append]; refine bwll_append ?_ ?_) | refine bwll_append ?_ ?_ | (simp [cGTask, cI, cF, cGOp, cGEffect, cGCertificate, cN, take_len_map] <;> fail) | (rw [List.drop_zero, List.take_of_length_le] <;> first | rfl | (simp [cGTask, cI, cF, cGOp, cGEffect, cGCertificate, cN] <;> fail)) | (simp; omega) | (simp only [List.length_map, List.length_append, List.drop_zero, List.length_cons, List.length_nil, Nat.zero_add, Nat.add_zero] at *; omega))); done) | ((repeat (first | exact BWL.nil | exact bwll_nil | exact bw_c | exact BW.sl | exact BW.nil | exact bwll_same rfl FrI.h | refine BWL.cons ?_ ?_ | refine bwll_cons ?_ ?_ | (refine bw_own3 rfl rfl rfl FrI.h ?_ ?_ ?_) | exact BW.fr FrV.h | exact BW.fr (by assumption) | refine bw_agg ?_ | refine bw_clo ?_ | refine bw_ptr rfl rfl rfl ?_ | (refine bw_own rfl rfl rfl ?_ FrI.h ?_ ?_) | assumption | omega | rfl | (rw [List.length_map, ← List.length_append]; assumption) | (refine bwll_same ?_ FrI.h; (simp [cGTask, cI, cF, cGOp, cGEffect, cGCertificate, cN] <;> fail)) | (rw [List.map_set]; refine bwll_set (by first | rfl | omega | simp) ?_ ?_) | refine bwll_set (by first | rfl | omega | simp) ?_ ?_ | (rw [List.map_replicate]; refine bwll_rep ?_) | refine bwll_rep ?_ | (rw [List.map_append]; refine bwll_append ?_ ?_) | refine bwll_append ?_ ?_ | (simp [cGTask, cI, cF, cGOp, cGEffect, cGCertificate, cN, take_len_map] <;> fail) | (rw [List.drop_zero, List.take_of_length_le] <;> first | rfl | (simp [cGTask, cI, cF, cGOp, cGEffect, cGCertificate, cN] <;> fail)) | (simp; omega) | (simp only [List.length_map, List.length_append, List.drop_zero, List.length_cons, List.length_nil, Nat.zero_add, Nat.add_zero] at *; omega))); done) | (simp [cGTask, cI, cF, cGOp, cGEffect, cGCertificate, cN, take_len_map]; done)) : p ∧ K := ⟨h, k⟩
theorem ca_XDOrd {P : Prop} (h : P := by repeat (first | exact True.intro | refine ci_XDOrd ?_)) : P := h
theorem pr_XDOrd {p K : Prop} (k : K) (h : p := by first | assumption | exact Int.natCast_nonneg _ | exact Nat.le_refl _ | exact Nat.zero_le _ | omega | (simp; done) | (simp; omega)) : p ∧ K := ⟨h, k⟩
theorem pl_XDOrd {p K : Prop} (k : K) (h : p := by first | rfl | exact List.length_map _ | (simp; done) | (simp; omega)) : p ∧ K := ⟨h, k⟩
theorem pe_XDOrd {p K : Prop} (k : K) (h : p := by first | omega | (simp; omega) | (simp only [List.length_map, List.length_cons, List.length_nil, List.length_append]; omega) | (simp only [List.length_map, List.drop_zero, List.length_cons, List.length_nil, Nat.zero_add, Nat.add_zero] at *; omega)) : p ∧ K := ⟨h, k⟩
theorem dr_XDOrd {b : Bool} {p K : Prop} (k : K) (h : b = true → p := by intro h; first | (cases h; done) | exact ⟨by kernel_rfl, by kernel_rfl⟩) : (b = true → p) ∧ K := ⟨h, k⟩
theorem cl_XDOrd {C : Cx} {n : Nat} {o : Oper} {τ : Nat → AV} {η : Nat → Ent} {f : FuncId} {os : Array Operand} {ats : Array TypeId} {r : AV} {args : List AV} {K : Foot → Prop} (ho : o.op = .call ⟨.value (.func f), os, ats⟩) (hc : ACall C f args r) (k : K ⟨r, [], []⟩)
    (hd : InB n o.dst := by exact Nat.le_of_ble_eq_true rfl) (hargs : os.toList.map (evA τ) = args := by first | rfl | (simp [cGTask, cI, cF, cGOp, cGEffect, cGCertificate, cN]; done) | (repeat (first | exact rfl | refine cons_eq ?_ ?_ | exact sl_dt rfl))) (hfr : frs args := by repeat (first | exact trivial | exact fr1_eA _ | exact fr0_eA _ | exact fr1_fr (by assumption) | exact FrV.h | refine And.intro ?_ ?_)) (hr : fr1 r := by repeat (first | exact trivial | exact fr1_eA _ | exact fr0_eA _ | exact fr1_fr (by assumption) | exact FrV.h | refine And.intro ?_ ?_)) : ∃ f : Foot, LF C n o τ η f ∧ K f := ⟨_, lf_call ho hd hargs hc hfr hr, k⟩
theorem clg_XDOrd {C : Cx} {n : Nat} {o : Oper} {τ : Nat → AV} {η : Nat → Ent} {f : FuncId} {os : Array Operand} {ats : Array TypeId} {r : AV} {xs ys : List AV} {bs bs' : List (Nat × Blk)} {ks : List Nat} {K : Foot → Prop} (ρ : List (Nat × Nat)) (fz : List Nat) (go nb : List (Nat × Ent)) (r' : AV) (ho : o.op = .call ⟨.value (.func f), os, ats⟩) (hargs : os.toList.map (evA τ) = xs)
    (hc : ACallG C f ys bs ks r bs') (k : K ⟨r', go ++ nb, []⟩) (hd : InB n o.dst := by exact Nat.le_of_ble_eq_true rfl) (hok : okC ρ fz bs ks bs' (idsE go) = true := by rfl) (hgo : allUs η go := by repeat (first | exact trivial | refine And.intro rfl ?_)) (hgl : ltUs n go := by repeat (first | exact trivial | refine And.intro (Nat.le_of_ble_eq_true rfl) ?_))
    (hw : GWL η (fE bs) (lk ρ) (fun i => inB fz i = true) (fun i => inB (keys bs) i = true) xs ys := by exact zg_XDOrd) (hb : GBL η (fE bs) (lk ρ) (fun i => inB fz i = true) (fun i => inB (keys bs) i = true) bs := by exact zg_XDOrd)
    (hr : GW (fE bs') (updAll η (go ++ nb)) (lk (backN ρ bs')) (fun _ => False) (fun i => inB (idsE nb) i = true) r r' := by exact zg_XDOrd)
    (hnb : nbOk n η (updAll η (go ++ nb)) ρ ks (fE bs') (lk (backN ρ bs')) (fun i => inB (idsE nb) i = true) bs' nb := by repeat (first | exact True.intro | rfl | exact Nat.le_of_ble_eq_true rfl | exact gb_nil rfl rfl | refine gb_some ⟨rfl, rfl, rfl⟩ ?_ | refine And.intro ?_ ?_ | refine gw_ren rfl rfl rfl rfl rfl ?_ | exact gw_oren rfl rfl rfl rfl rfl | exact gw_opren rfl rfl rfl rfl rfl | exact gw_onil rfl rfl | refine gw_pren rfl rfl rfl rfl rfl | exact gw_thaw rfl rfl rfl | refine gw_tup ?_ | exact GWL.nil | exact gwll_nil | exact gw_c | exact GW.sl | exact GW.nil | exact gwll_same rfl FrI.h | refine GWL.cons ?_ ?_ | refine gwll_cons ?_ ?_ | (refine gw_own3 rfl rfl rfl FrI.h ?_ ?_ ?_) | exact GW.fr FrV.h | exact GW.fr (by assumption) | refine gw_agg ?_ | refine gw_clo ?_ | refine gw_ptr rfl rfl rfl ?_ | (refine gw_own rfl rfl rfl ?_ FrI.h ?_ ?_) | assumption | omega | rfl | (rw [List.length_map, ← List.length_append]; assumption) | (refine gwll_same ?_ FrI.h; (simp [cGTask, cI, cF, cGOp, cGEffect, cGCertificate, cN] <;> fail)) | (rw [List.map_set]; refine gwll_set (by first | rfl | omega | simp) ?_ ?_) | refine gwll_set (by first | rfl | omega | simp) ?_ ?_ | (rw [List.map_replicate]; refine gwll_rep ?_) | refine gwll_rep ?_ | (rw [List.map_append]; refine gwll_append ?_ ?_) | refine gwll_append ?_ ?_ | (simp [cGTask, cI, cF, cGOp, cGEffect, cGCertificate, cN, take_len_map] <;> fail) | (rw [List.drop_zero, List.take_of_length_le] <;> first | rfl | (simp [cGTask, cI, cF, cGOp, cGEffect, cGCertificate, cN] <;> fail)) | (simp; omega) | (simp only [List.length_map, List.length_append, List.drop_zero, List.length_cons, List.length_nil, Nat.zero_add, Nat.add_zero] at *; omega))) : ∃ f : Foot, LF C n o τ η f ∧ K f := ⟨_, lf_callG ρ fz go nb ho hd hargs hc hok hgo hgl hw hb hr hnb, k⟩
def M_ce_clone_L1 (a0 : GCertificate) : Nat → Int → (List Nogood) → Option (GCertificate)
  | 0, _, _ => none
  | k9 + 1, v7, v8 =>
    sel (decide (v7 < ((a0.Nogoods.map cN).length : Int)))
     (ix a0.Nogoods v7 (fun y10 =>
       ob1 (M_cloneF y10.1) (fun z11 =>
        grd ((v8.length + 1) * 32 ≤ 140737488355328) (grd (z11.length ≤ 140737488355328) (M_ce_clone_L1 a0 k9 (IntKind.i64.wrap (v7 + 1)) (v8 ++ [(z11, y10.2)]))))))
     (grd (v8.length ≤ 140737488355328) (some ({ Bound := a0.Bound, Nogoods := v8 : GCertificate })))
def M_ce_clone (a0 : GCertificate) : Option (GCertificate) :=
  M_ce_clone_L1 a0 ((((a0.Nogoods.map cN).length : Int)).toNat + 1) 0 []
theorem A_ce_clone (a0 : GCertificate) {r1 : GCertificate} (h : M_ce_clone a0 = some r1) : ACall cx 48 [.agg [.c (.int .i64 a0.Bound), .sl 2 (a0.Nogoods.map cN)]] (.agg [.c (.int .i64 r1.Bound), .sl 2 (r1.Nogoods.map cN)]) := by
  refine aOf Tryz.func48 rfl (by decide) rfl (Nat.le_of_ble_eq_true rfl) ?_; intro _; unfold M_ce_clone at h; refine aSR ?_; intro _; refine dr_XDOrd ?_; refine aSR ?_; intro _; refine dr_XDOrd ?_; refine aSq ?_; refine aSR ?_; intro _; refine dr_XDOrd ?_; refine aBk ?_; refine awp_loop (α := Nat × Int × (List Nogood)) (fun x => mkS 29 [(2, .ptr 2 0 0 0), (3, .ptr 3 0 0 0), (10, .sl 2 (a0.Nogoods.map cN)), (11, .c (.int .i64 ((a0.Nogoods.map cN).length : Int))), (12, .c (.int .i64 x.2.1))] [(2, ⟨29, 2, true, [[.c (.int .i64 0), .c (.slice none 0 0)]]⟩), (3, ⟨29, 2, true, [[.c (.int .i64 a0.Bound), .own 25 0 0 x.2.2.length]]⟩), (25, ⟨51, 2, false, x.2.2.map cN⟩)]) (fun x => M_ce_clone_L1 a0 x.1 x.2.1 x.2.2 = some r1) (fun x => x.1) ((((a0.Nogoods.map cN).length : Int)).toNat + 1, 0, []) h ?_ ?_
  · exact ca_XDOrd
  · intro x1 h; intro _; obtain ⟨k9, m2, h⟩ := succ_of (f := fun n => M_ce_clone_L1 a0 n x1.2.1 x1.2.2) rfl h; replace h : M_ce_clone_L1 a0 (k9 + 1) x1.2.1 x1.2.2 = some r1 := h; rw [M_ce_clone_L1] at h; refine aSR ?_; intro _; refine dr_XDOrd ?_; refine aSq ?_; refine aCd ?_; intro _; refine spl h (fun c3 h => ?_) (fun c3 h => ?_)
    · refine aSk ?_; refine aSq ?_; refine aBk ?_; refine aSR ?_; intro _; obtain ⟨y10, w4, q5, h⟩ := ix_ok h; refine Exists.intro (cN y10) (And.intro (map_at' w4) ?_); intro _; refine pr_XDOrd ?_; refine dr_XDOrd ?_; refine aRg ?_; intro _; obtain ⟨z11, u6, h⟩ := ob1_ok h; refine clg_XDOrd [(0, 20)] [] [] [(20, ⟨2, some ⟨63, 2, false, z11.map cF⟩⟩)] (.own 20 2 0 z11.length) rfl rfl (A_cloneF y10.1 u6) ?_; intro _; obtain ⟨q7, h⟩ := grd_ok h; refine pl_XDOrd ?_; refine pl_XDOrd ?_; refine And.intro (by first | with_reducible assumption | (show (x1.2.2.length + 1) * 32 ≤ 140737488355328; with_reducible assumption) | omega | (simp; omega)) ?_; refine pe_XDOrd ?_; refine dr_XDOrd ?_; refine aRg ?_; intro _; refine dr_XDOrd ?_; obtain ⟨q8, h⟩ := grd_ok h; refine ⟨(k9, (IntKind.i64.wrap (x1.2.1 + 1)), (x1.2.2 ++ [(z11, y10.2)])), h, ltS m2, ?_⟩; exact ca_XDOrd
    · refine aEx ?_; refine aSR ?_; intro _; refine dr_XDOrd ?_; refine aRt ?_; obtain ⟨q9, h⟩ := grd_ok h; intro _; obtain rfl := inj1 h; exact ca_XDOrd
def M_p_Contains (a0 : List Fact) (a1 : List Fact) : Option (Bool) :=
  ob1 (M_p_valid a0) (fun z1 =>
   sel z1
    (ob1 (M_p_valid a1) (fun z2 =>
      sel z2
       (ob1 (M_p_contains a0 a1) (fun z3 =>
         some z3))
       (some false)))
    (some false))
theorem A_p_Contains (a0 : List Fact) (a1 : List Fact) {r1 : Bool} (h : M_p_Contains a0 a1 = some r1) : ACall cx 54 [.sl 2 (a0.map cF), .sl 2 (a1.map cF)] (.c (.bool r1)) := by
  refine aOf Tryz.func54 rfl (by decide) rfl (Nat.le_of_ble_eq_true rfl) ?_; intro _; unfold M_p_Contains at h; refine aSR ?_; intro _; refine dr_XDOrd ?_; refine aSR ?_; intro _; obtain ⟨z1, u1, h⟩ := ob1_ok h; refine cl_XDOrd rfl (A_p_valid a0 u1) ?_; intro _; refine spl h (fun c2 h => ?_) (fun c2 h => ?_)
  · intro _; obtain ⟨z2, u3, h⟩ := ob1_ok h; refine cl_XDOrd rfl (A_p_valid a1 u3) ?_; intro _; refine spl h (fun c4 h => ?_) (fun c4 h => ?_)
    · intro _; obtain ⟨z3, u5, h⟩ := ob1_ok h; refine cl_XDOrd rfl (A_p_contains a0 a1 u5) ?_; intro _; refine dr_XDOrd ?_; refine aRt ?_; intro _; obtain rfl := inj1 h; exact ca_XDOrd
    · intro _; refine dr_XDOrd ?_; refine aRt ?_; intro _; obtain rfl := inj1 h; exact ca_XDOrd
  · intro _; refine dr_XDOrd ?_; refine aRt ?_; intro _; obtain rfl := inj1 h; exact ca_XDOrd
def M_ce_Reduce_L1 (v218 : Int) (y272 : Nogood) (z1 : GCertificate) : Nat → Bool → Int → Option (Bool)
  | 0, _, _ => none
  | k314 + 1, v312, v313 =>
    sel (decide (v313 < ((z1.Nogoods.map cN).length : Int)))
     (ix z1.Nogoods v313 (fun y315 =>
       ob1 (sel (v313 == v218)
         (some (.inr ()))
         (sel (decide (y315.2 > y272.2))
           (some (.inr ()))
           (ob1 (M_p_Contains y272.1 y315.1) (fun z320 =>
             sel (!z320)
              (some (.inr ()))
              (some (.inl (z320, (!z320))))))) : Option ((Bool × Bool) ⊕ Unit))
        (osum
        (fun (_, _) => sel (y315.2 == y272.2)
           (sel v312
             (sel (((y272.1.map cF).length : Int) == ((y315.1.map cF).length : Int))
               (M_ce_Reduce_L1 v218 y272 z1 k314 (decide (v313 > v218)) (IntKind.i64.wrap (v313 + 1)))
               (M_ce_Reduce_L1 v218 y272 z1 k314 false (IntKind.i64.wrap (v313 + 1))))
             (M_ce_Reduce_L1 v218 y272 z1 k314 false (IntKind.i64.wrap (v313 + 1))))
           (sel v312
             (M_ce_Reduce_L1 v218 y272 z1 k314 false (IntKind.i64.wrap (v313 + 1)))
             (M_ce_Reduce_L1 v218 y272 z1 k314 false (IntKind.i64.wrap (v313 + 1)))))
        (fun _ => M_ce_Reduce_L1 v218 y272 z1 k314 v312 (IntKind.i64.wrap (v313 + 1))))))
     (some v312)
def M_ce_Reduce_L2 (a0 : GCertificate) (z1 : GCertificate) : Nat → Int → (List Nogood) → Option (GCertificate)
  | 0, _, _ => none
  | k220 + 1, v218, v219 =>
    sel (decide (v218 < ((z1.Nogoods.map cN).length : Int)))
     (ob1 (ix z1.Nogoods v218 (fun y272 =>
        ob1 (M_ce_Reduce_L1 v218 y272 z1 ((((z1.Nogoods.map cN).length : Int)).toNat + 1) true 0 : Option (Bool))
         (fun v296 => sel v296
            (grd ((v219.length + 1) * 32 ≤ 140737488355328) (some (v219 ++ [y272])))
            (some v219))) : Option (List Nogood))
       (fun v270 => M_ce_Reduce_L2 a0 z1 k220 (IntKind.i64.wrap (v218 + 1)) v270))
     (grd (v219.length ≤ 140737488355328) (some ({ Bound := a0.Bound, Nogoods := v219 : GCertificate })))
def M_ce_Reduce (a0 : GCertificate) : Option (GCertificate) :=
  ob1 (M_ce_clone a0) (fun z1 =>
   ob1 (M_ce_Check a0) (fun z2 =>
    erM z2
     (M_ce_Reduce_L2 a0 z1 ((((z1.Nogoods.map cN).length : Int)).toNat + 1) 0 [])
     (fun _ => some z1)))
theorem A_ce_Reduce (a0 : GCertificate) {r1 : GCertificate} (h : M_ce_Reduce a0 = some r1) : ACall cx 28 [.agg [.c (.int .i64 a0.Bound), .sl 2 (a0.Nogoods.map cN)]] (.agg [.c (.int .i64 r1.Bound), .sl 2 (r1.Nogoods.map cN)]) := by
  refine aOf Tryz.func28 rfl (by decide) rfl (Nat.le_of_ble_eq_true rfl) ?_; intro _; unfold M_ce_Reduce at h; refine aSR ?_; intro _; refine dr_XDOrd ?_; refine aSR ?_; intro _; obtain ⟨z1, u1, h⟩ := ob1_ok h; refine cl_XDOrd rfl (A_ce_clone a0 u1) ?_; intro _; refine dr_XDOrd ?_; refine aSq ?_; refine aSR ?_; intro _; obtain ⟨z2, u2, h⟩ := ob1_ok h; refine cl_XDOrd rfl (A_ce_Check a0 u2) ?_; rcases z2 with _ | e3
  · replace h := erM_nil h; intro _; refine dr_XDOrd ?_; refine aCd ?_; intro _; refine litF ?_; refine aSk ?_; refine aSR ?_; intro _; refine dr_XDOrd ?_; refine aSq ?_; refine aSR ?_; intro _; refine dr_XDOrd ?_; refine aBk ?_; refine awp_loop (α := Nat × Int × (List Nogood)) (fun x => mkS 87 [(2, .ptr 2 0 0 0), (3, .ptr 3 0 0 0), (4, .ptr 4 0 0 0), (21, .sl 2 (z1.Nogoods.map cN)), (22, .c (.int .i64 ((z1.Nogoods.map cN).length : Int))), (23, .c (.int .i64 x.2.1))] [(2, ⟨29, 2, true, [[.c (.int .i64 0), .c (.slice none 0 0)]]⟩), (3, ⟨29, 2, true, [[.c (.int .i64 z1.Bound), .sl 2 (z1.Nogoods.map cN)]]⟩), (4, ⟨29, 2, true, [[.c (.int .i64 a0.Bound), .own 83 0 0 x.2.2.length]]⟩), (83, ⟨51, 2, false, x.2.2.map cN⟩)]) (fun x => M_ce_Reduce_L2 a0 z1 x.1 x.2.1 x.2.2 = some r1) (fun x => x.1) ((((z1.Nogoods.map cN).length : Int)).toNat + 1, 0, []) h ?_ ?_
    · exact ca_XDOrd
    · intro x3 h; intro _; obtain ⟨k220, m4, h⟩ := succ_of (f := fun n => M_ce_Reduce_L2 a0 z1 n x3.2.1 x3.2.2) rfl h; replace h : M_ce_Reduce_L2 a0 z1 (k220 + 1) x3.2.1 x3.2.2 = some r1 := h; rw [M_ce_Reduce_L2] at h; refine aSR ?_; intro _; refine dr_XDOrd ?_; refine aSq ?_; refine aCd ?_; intro _; refine spl h (fun c5 h => ?_) (fun c5 h => ?_)
      · refine aSk ?_; obtain ⟨o6, h, hK7⟩ := ob1_ok h; refine awp_cut (α := List Nogood) (fun v270 => mkS 87 [(2, .ptr 2 0 0 0), (3, .ptr 3 0 0 0), (4, .ptr 4 0 0 0), (21, .sl 2 (z1.Nogoods.map cN)), (22, .c (.int .i64 ((z1.Nogoods.map cN).length : Int))), (23, .c (.int .i64 x3.2.1))] [(2, ⟨29, 2, true, [[.c (.int .i64 0), .c (.slice none 0 0)]]⟩), (3, ⟨29, 2, true, [[.c (.int .i64 z1.Bound), .sl 2 (z1.Nogoods.map cN)]]⟩), (4, ⟨29, 2, true, [[.c (.int .i64 a0.Bound), .own 83 0 0 v270.length]]⟩), (83, ⟨51, 2, false, v270.map cN⟩)]) (fun v => o6 = v) ?_ ?_
        · refine aBk ?_; refine aSR ?_; intro _; obtain ⟨y272, w8, q9, h⟩ := ix_ok h; refine Exists.intro (cN y272) (And.intro (map_at' w8) ?_); intro _; refine pr_XDOrd ?_; refine dr_XDOrd ?_; refine aSR ?_; intro _; refine dr_XDOrd ?_; obtain ⟨o10, h, hK11⟩ := ob1_ok h; refine awp_cut (α := Bool) (fun v296 => mkS 87 [(2, .ptr 2 0 0 0), (3, .ptr 3 0 0 0), (4, .ptr 4 0 0 0), (6, .ptr 6 0 0 0), (7, .c (.bool v296)), (21, .sl 2 (z1.Nogoods.map cN)), (22, .c (.int .i64 ((z1.Nogoods.map cN).length : Int))), (23, .c (.int .i64 x3.2.1))] [(2, ⟨29, 2, true, [[.c (.int .i64 0), .c (.slice none 0 0)]]⟩), (3, ⟨29, 2, true, [[.c (.int .i64 z1.Bound), .sl 2 (z1.Nogoods.map cN)]]⟩), (4, ⟨29, 2, true, [[.c (.int .i64 a0.Bound), .own 83 0 0 x3.2.2.length]]⟩), (6, ⟨51, 2, true, [[.sl 2 (y272.1.map cF), .c (.int .i64 y272.2)]]⟩), (83, ⟨51, 2, false, x3.2.2.map cN⟩)]) (fun v => o10 = v) ?_ ?_
          · refine aSR ?_; intro _; refine dr_XDOrd ?_; refine aBk ?_; refine awp_loop (α := Nat × Bool × Int) (fun x => mkS 87 [(2, .ptr 2 0 0 0), (3, .ptr 3 0 0 0), (4, .ptr 4 0 0 0), (5, .c (.int .i64 x3.2.1)), (6, .ptr 6 0 0 0), (7, .c (.bool x.2.1)), (21, .sl 2 (z1.Nogoods.map cN)), (22, .c (.int .i64 ((z1.Nogoods.map cN).length : Int))), (23, .c (.int .i64 x3.2.1)), (29, .sl 2 (z1.Nogoods.map cN)), (30, .c (.int .i64 ((z1.Nogoods.map cN).length : Int))), (31, .c (.int .i64 x.2.2))] [(2, ⟨29, 2, true, [[.c (.int .i64 0), .c (.slice none 0 0)]]⟩), (3, ⟨29, 2, true, [[.c (.int .i64 z1.Bound), .sl 2 (z1.Nogoods.map cN)]]⟩), (4, ⟨29, 2, true, [[.c (.int .i64 a0.Bound), .own 83 0 0 x3.2.2.length]]⟩), (6, ⟨51, 2, true, [[.sl 2 (y272.1.map cF), .c (.int .i64 y272.2)]]⟩), (83, ⟨51, 2, false, x3.2.2.map cN⟩)]) (fun x => M_ce_Reduce_L1 x3.2.1 y272 z1 x.1 x.2.1 x.2.2 = some o10) (fun x => x.1) ((((z1.Nogoods.map cN).length : Int)).toNat + 1, true, 0) h ?_ ?_
            · exact ca_XDOrd
            · intro x12 h; intro _; obtain ⟨k314, m13, h⟩ := succ_of (f := fun n => M_ce_Reduce_L1 x3.2.1 y272 z1 n x12.2.1 x12.2.2) rfl h; replace h : M_ce_Reduce_L1 x3.2.1 y272 z1 (k314 + 1) x12.2.1 x12.2.2 = some o10 := h; rw [M_ce_Reduce_L1] at h; refine aSR ?_; intro _; refine dr_XDOrd ?_; refine aSq ?_; refine aCd ?_; intro _; refine spl h (fun c14 h => ?_) (fun c14 h => ?_)
              · refine aSk ?_; refine aSq ?_; refine aBk ?_; refine aSR ?_; intro _; obtain ⟨y315, w15, q16, h⟩ := ix_ok h; refine Exists.intro (cN y315) (And.intro (map_at' w15) ?_); intro _; refine pr_XDOrd ?_; refine dr_XDOrd ?_; obtain ⟨o17, h, hK18⟩ := ob1_ok h; refine awp_cut (α := Bool × Bool) (fun (v317, v318) => mkS 87 [(2, .ptr 2 0 0 0), (3, .ptr 3 0 0 0), (4, .ptr 4 0 0 0), (5, .c (.int .i64 x3.2.1)), (6, .ptr 6 0 0 0), (7, .c (.bool x12.2.1)), (8, .c (.int .i64 x12.2.2)), (9, .ptr 9 0 0 0), (21, .sl 2 (z1.Nogoods.map cN)), (22, .c (.int .i64 ((z1.Nogoods.map cN).length : Int))), (23, .c (.int .i64 x3.2.1)), (29, .sl 2 (z1.Nogoods.map cN)), (30, .c (.int .i64 ((z1.Nogoods.map cN).length : Int))), (31, .c (.int .i64 x12.2.2)), (40, .ptr 9 0 0 1), (41, .c (.int .i64 y315.2)), (42, .ptr 6 0 0 1), (43, .c (.int .i64 y272.2)), (44, .c (.bool (decide (y315.2 > y272.2)))), (47, .ptr 6 0 0 0), (48, .sl 2 (y272.1.map cF)), (49, .ptr 9 0 0 0), (50, .sl 2 (y315.1.map cF)), (51, .c (.bool v317)), (52, .c (.bool v318))] [(2, ⟨29, 2, true, [[.c (.int .i64 0), .c (.slice none 0 0)]]⟩), (3, ⟨29, 2, true, [[.c (.int .i64 z1.Bound), .sl 2 (z1.Nogoods.map cN)]]⟩), (4, ⟨29, 2, true, [[.c (.int .i64 a0.Bound), .own 83 0 0 x3.2.2.length]]⟩), (6, ⟨51, 2, true, [[.sl 2 (y272.1.map cF), .c (.int .i64 y272.2)]]⟩), (9, ⟨51, 2, true, [[.sl 2 (y315.1.map cF), .c (.int .i64 y315.2)]]⟩), (83, ⟨51, 2, false, x3.2.2.map cN⟩)]) (fun v => o17 = (.inl v)) ?_ ?_
                · refine aSR ?_; intro _; refine spf h (fun c19 h => ?_) (fun c19 h => ?_)
                  · intro _; refine spf h (fun c20 h => ?_) (fun c20 h => ?_)
                    · intro _; obtain ⟨z320, u21, h⟩ := ob1_ok h; refine cl_XDOrd rfl (A_p_Contains y272.1 y315.1 u21) ?_; intro _; refine dr_XDOrd ?_; refine aCd ?_; intro _; refine spl h (fun c22 h => ?_) (fun c22 h => ?_)
                      · refine aEx ?_; have j23 := Option.some.inj h; subst j23; replace h := (osum_r hK18); refine aRg ?_; intro _; refine dr_XDOrd ?_; refine ⟨(k314, x12.2.1, (IntKind.i64.wrap (x12.2.2 + 1))), h, ltS m13, ?_⟩; exact ca_XDOrd
                      · refine aSk ?_; refine ⟨(z320, (!z320)), (Option.some.inj h).symm, ?_⟩; exact ca_XDOrd
                    · intro _; refine dr_XDOrd ?_; refine aCd ?_; intro _; refine litT ?_; refine aEx ?_; have j24 := Option.some.inj h; subst j24; replace h := (osum_r hK18); refine aRg ?_; intro _; refine dr_XDOrd ?_; refine ⟨(k314, x12.2.1, (IntKind.i64.wrap (x12.2.2 + 1))), h, ltS m13, ?_⟩; exact ca_XDOrd
                  · intro _; refine dr_XDOrd ?_; refine aCd ?_; intro _; refine litT ?_; refine aEx ?_; have j25 := Option.some.inj h; subst j25; replace h := (osum_r hK18); refine aRg ?_; intro _; refine dr_XDOrd ?_; refine ⟨(k314, x12.2.1, (IntKind.i64.wrap (x12.2.2 + 1))), h, ltS m13, ?_⟩; exact ca_XDOrd
                · rintro ⟨v317, v318⟩ ho; have ho := ho.symm; subst ho; intro _; replace h := (osum_l hK18); refine aSR ?_; intro _; refine spl h (fun c26 h => ?_) (fun c26 h => ?_)
                  · intro _; refine dr_XDOrd ?_; refine aRg ?_; intro _; refine spl h (fun c27 h => ?_) (fun c27 h => ?_)
                    · intro _; refine spl h (fun c28 h => ?_) (fun c28 h => ?_)
                      · intro _; refine dr_XDOrd ?_; refine aRg ?_; intro _; refine dr_XDOrd ?_; refine ⟨(k314, (decide (x12.2.2 > x3.2.1)), (IntKind.i64.wrap (x12.2.2 + 1))), h, ltS m13, ?_⟩; exact ca_XDOrd
                      · intro _; refine dr_XDOrd ?_; refine aRg ?_; intro _; refine dr_XDOrd ?_; refine ⟨(k314, false, (IntKind.i64.wrap (x12.2.2 + 1))), h, ltS m13, ?_⟩; exact ca_XDOrd
                    · intro _; refine dr_XDOrd ?_; refine aRg ?_; intro _; refine dr_XDOrd ?_; refine ⟨(k314, false, (IntKind.i64.wrap (x12.2.2 + 1))), h, ltS m13, ?_⟩; exact ca_XDOrd
                  · intro _; refine dr_XDOrd ?_; refine aRg ?_; intro _; refine spl h (fun c29 h => ?_) (fun c29 h => ?_)
                    · intro _; refine litF ?_; intro _; refine dr_XDOrd ?_; refine aRg ?_; intro _; refine dr_XDOrd ?_; refine ⟨(k314, false, (IntKind.i64.wrap (x12.2.2 + 1))), h, ltS m13, ?_⟩; exact ca_XDOrd
                    · intro _; refine dr_XDOrd ?_; refine aRg ?_; intro _; refine dr_XDOrd ?_; refine ⟨(k314, false, (IntKind.i64.wrap (x12.2.2 + 1))), h, ltS m13, ?_⟩; exact ca_XDOrd
              · refine aEx ?_; refine ⟨x12.2.1, (Option.some.inj h).symm, ?_⟩; exact ca_XDOrd
          · rintro v296 ho; have ho := ho.symm; subst ho; intro _; replace h := hK11; refine aSR ?_; intro _; refine dr_XDOrd ?_; refine aCd ?_; intro _; refine spl h (fun c30 h => ?_) (fun c30 h => ?_)
            · refine aRg ?_; intro _; obtain ⟨q31, h⟩ := grd_ok h; refine pl_XDOrd ?_; refine pl_XDOrd ?_; refine And.intro (by first | with_reducible assumption | (show (x3.2.2.length + 1) * 32 ≤ 140737488355328; with_reducible assumption) | omega | (simp; omega)) ?_; refine pe_XDOrd ?_; refine dr_XDOrd ?_; refine ⟨(x3.2.2 ++ [y272]), (Option.some.inj h).symm, ?_⟩; exact ca_XDOrd
            · refine aSk ?_; refine ⟨x3.2.2, (Option.some.inj h).symm, ?_⟩; exact ca_XDOrd
        · rintro v270 ho; have ho := ho.symm; subst ho; intro _; replace h := hK7; refine aRg ?_; intro _; refine dr_XDOrd ?_; refine ⟨(k220, (IntKind.i64.wrap (x3.2.1 + 1)), v270), h, ltS m4, ?_⟩; exact ca_XDOrd
      · refine aEx ?_; refine aSR ?_; intro _; refine dr_XDOrd ?_; refine aRt ?_; obtain ⟨q32, h⟩ := grd_ok h; intro _; obtain rfl := inj1 h; exact ca_XDOrd
  · replace h := erM_no h; intro _; refine dr_XDOrd ?_; refine aCd ?_; intro _; refine litT ?_; refine aSR ?_; intro _; refine dr_XDOrd ?_; refine aRt ?_; intro _; obtain rfl := inj1 h; exact ca_XDOrd
def M_l31_CheckerOrders (g : Nat) (a0 : GTask) (a1 : GCertificate) : Option (Bool) :=
  ob1 (ob1 (M_l31_gentle a0) (fun z9 =>
    sel (!z9)
     (ob1 (M_l31_awake g) (fun z14 =>
       some (.inr z14)))
     (ob1 (M_l31_few a1) (fun z10 =>
       sel (!z10)
        (ob1 (M_l31_awake g) (fun z13 =>
          some (.inr z13)))
        (ob1 (M_l31_awake g) (fun z11 =>
          sel (!z11)
           (ob1 (M_l31_awake g) (fun z12 =>
             some (.inr z12)))
           (some (.inl ()))))))) : Option (Unit ⊕ Bool))
   (osum
   (fun _ => ob1 (M_ce_Check a1) (fun z15 =>
      erM z15
       (ob1 (M_checker_Verify g a0 a1 1048576) (fun z17 =>
         ob1 (M_certSort a1) (fun z18 =>
          ob1 (M_checker_Verify g a0 z18 1048576) (fun z19 =>
           ob1 (M_ce_Reduce a1) (fun z20 =>
            ob1 (M_checker_Verify g a0 z20 1048576) (fun z21 =>
             erM z17
              (erM z19
                (erM z21
                  (some true)
                  (fun _ => some false))
                (fun _ => some false))
              (fun e22 => ob1 (M_b_Num z19) (fun z25 =>
                ob1 (M_b_Num (Er.no e22)) (fun z26 =>
                 some (z25 == z26))))))))))
       (fun _ => some true)))
   (fun r7 => some r7))
theorem A_l31_CheckerOrders (g : Nat) (a0 : GTask) (a1 : GCertificate) {r1 : Bool} (h : M_l31_CheckerOrders g a0 a1 = some r1) : ACall cx 9 [.agg [.sl 1 (a0.Vars.map cI), .sl 1 (a0.Init.map cI), .sl 2 (a0.Goal.map cF), .sl 4 (a0.Ops.map cGOp)], .agg [.c (.int .i64 a1.Bound), .sl 2 (a1.Nogoods.map cN)]] (.c (.bool r1)) := by
  refine aOf Tryz.func9 rfl (by decide) rfl (Nat.le_of_ble_eq_true rfl) ?_; intro _; unfold M_l31_CheckerOrders at h; refine aSR ?_; intro _; refine dr_XDOrd ?_; obtain ⟨o1, h, hK2⟩ := ob1_ok h; refine awp_cut (α := Unit) (fun _ => mkS 48 [(2, .ptr 2 0 0 0), (3, .ptr 3 0 0 0)] [(2, ⟨26, 4, true, [[.sl 1 (a0.Vars.map cI), .sl 1 (a0.Init.map cI), .sl 2 (a0.Goal.map cF), .sl 4 (a0.Ops.map cGOp)]]⟩), (3, ⟨29, 2, true, [[.c (.int .i64 a1.Bound), .sl 2 (a1.Nogoods.map cN)]]⟩)]) (fun v => o1 = (.inl v)) ?_ ?_
  · refine aSR ?_; intro _; obtain ⟨z9, u3, h⟩ := ob1_ok h; refine cl_XDOrd rfl (A_l31_gentle a0 u3) ?_; intro _; refine spf h (fun c4 h => ?_) (fun c4 h => ?_)
    · intro _; obtain ⟨z10, u5, h⟩ := ob1_ok h; refine cl_XDOrd rfl (A_l31_few a1 u5) ?_; intro _; refine spf h (fun c6 h => ?_) (fun c6 h => ?_)
      · intro _; obtain ⟨z11, u7, h⟩ := ob1_ok h; refine cl_XDOrd rfl (A_l31_awake g u7) ?_; intro _; refine dr_XDOrd ?_; refine aCd ?_; intro _; refine spl h (fun c8 h => ?_) (fun c8 h => ?_)
        · refine aSR ?_; intro _; obtain ⟨z12, u9, h⟩ := ob1_ok h; refine cl_XDOrd rfl (A_l31_awake g u9) ?_; intro _; refine dr_XDOrd ?_; refine aRt ?_; have j10 := Option.some.inj h; subst j10; replace h := (osum_r hK2); intro _; obtain rfl := inj1 h; exact ca_XDOrd
        · refine aSk ?_; refine ⟨(), (Option.some.inj h).symm, ?_⟩; exact ca_XDOrd
      · intro _; refine dr_XDOrd ?_; refine aCd ?_; intro _; refine litT ?_; refine aSR ?_; intro _; obtain ⟨z13, u11, h⟩ := ob1_ok h; refine cl_XDOrd rfl (A_l31_awake g u11) ?_; intro _; refine dr_XDOrd ?_; refine aRt ?_; have j12 := Option.some.inj h; subst j12; replace h := (osum_r hK2); intro _; obtain rfl := inj1 h; exact ca_XDOrd
    · intro _; refine dr_XDOrd ?_; refine aCd ?_; intro _; refine litT ?_; refine aSR ?_; intro _; obtain ⟨z14, u13, h⟩ := ob1_ok h; refine cl_XDOrd rfl (A_l31_awake g u13) ?_; intro _; refine dr_XDOrd ?_; refine aRt ?_; have j14 := Option.some.inj h; subst j14; replace h := (osum_r hK2); intro _; obtain rfl := inj1 h; exact ca_XDOrd
  · rintro _ ho; have ho := ho.symm; subst ho; intro _; replace h := (osum_l hK2); refine aSq ?_; refine aSR ?_; intro _; obtain ⟨z15, u15, h⟩ := ob1_ok h; refine cl_XDOrd rfl (A_ce_Check a1 u15) ?_; rcases z15 with _ | e16
    · replace h := erM_nil h; intro _; refine dr_XDOrd ?_; refine aCd ?_; intro _; refine litF ?_; refine aSk ?_; refine aSR ?_; intro _; obtain ⟨z17, u16, h⟩ := ob1_ok h; refine cl_XDOrd rfl (A_checker_Verify g a0 a1 1048576 u16) ?_; intro _; refine dr_XDOrd ?_; refine aSR ?_; intro _; obtain ⟨z18, u17, h⟩ := ob1_ok h; refine cl_XDOrd rfl (A_certSort a1 u17) ?_; intro _; obtain ⟨z19, u18, h⟩ := ob1_ok h; refine cl_XDOrd rfl (A_checker_Verify g a0 z18 1048576 u18) ?_; intro _; refine dr_XDOrd ?_; refine aSR ?_; intro _; obtain ⟨z20, u19, h⟩ := ob1_ok h; refine cl_XDOrd rfl (A_ce_Reduce a1 u19) ?_; intro _; obtain ⟨z21, u20, h⟩ := ob1_ok h; refine cl_XDOrd rfl (A_checker_Verify g a0 z20 1048576 u20) ?_; intro _; refine dr_XDOrd ?_; refine aSq ?_; refine aSq ?_; rcases z17 with _ | e22
      · replace h := erM_nil h; refine aRg ?_; intro _; refine dr_XDOrd ?_; refine aCd ?_; intro _; refine litT ?_; refine aSq ?_; rcases z19 with _ | e23
        · replace h := erM_nil h; rcases z21 with _ | e24
          · replace h := erM_nil h; refine aRg ?_; intro _; refine litT ?_; intro _; refine dr_XDOrd ?_; refine aRt ?_; intro _; obtain rfl := inj1 h; exact ca_XDOrd
          · replace h := erM_no h; refine aRg ?_; intro _; refine litT ?_; intro _; refine dr_XDOrd ?_; refine aRt ?_; intro _; obtain rfl := inj1 h; exact ca_XDOrd
        · replace h := erM_no h; refine aRg ?_; intro _; refine litF ?_; intro _; refine dr_XDOrd ?_; refine aRt ?_; intro _; obtain rfl := inj1 h; exact ca_XDOrd
      · replace h := erM_no h; refine aRg ?_; intro _; refine dr_XDOrd ?_; refine aCd ?_; intro _; refine litF ?_; refine aSk ?_; refine aSR ?_; intro _; obtain ⟨z25, u21, h⟩ := ob1_ok h; refine cl_XDOrd rfl (A_b_Num z19 u21) ?_; intro _; obtain ⟨z26, u22, h⟩ := ob1_ok h; refine cl_XDOrd rfl (A_b_Num (Er.no e22) u22) ?_; intro _; refine dr_XDOrd ?_; refine aRt ?_; intro _; obtain rfl := inj1 h; exact ca_XDOrd
    · replace h := erM_no h; intro _; refine dr_XDOrd ?_; refine aCd ?_; intro _; refine litT ?_; refine aSR ?_; intro _; refine dr_XDOrd ?_; refine aRt ?_; intro _; obtain rfl := inj1 h; exact ca_XDOrd
end Go.Proofs.YtcpajbglcgbolaaGreat.Am
namespace Go.Proofs.YtcpajbglcgbolaaGreat.Am
def M_ce_clone_L1_B (_ : GCertificate) (_y10 : Nogood) (_ : Int) : ((List Nogood)) → (((List Nogood)) → Option (GCertificate)) → Option (GCertificate) := fun v8 rc => ixv _y10 (fun y10 =>
       ob1 (M_cloneF y10.1) (fun z11 =>
        grd ((v8.length + 1) * 32 ≤ 140737488355328) (grd (z11.length ≤ 140737488355328) (rc ((v8 ++ [(z11, y10.2)]))))))
def M_ce_clone_L1_E (a0 : GCertificate) : ((List Nogood)) → Option (GCertificate) := fun v8 => grd (v8.length ≤ 140737488355328) (some ({ Bound := a0.Bound, Nogoods := v8 : GCertificate }))
theorem M_ce_clone_L1_eq (a0 : GCertificate) (v8 : List Nogood) (hl : a0.Nogoods.length < 9223372036854775807) : M_ce_clone_L1 a0 (((a0.Nogoods.map cN).length : Int).toNat + 1) 0 v8 = Rg (M_ce_clone_L1_B a0) (M_ce_clone_L1_E a0) a0.Nogoods 0 v8 := rg_e1 (L := fun k i v8 => M_ce_clone_L1 a0 k i v8) hl (fun _ _ _ => rfl) v8
def M_ce_Reduce_L1_B (v218 : Int) (y272 : Nogood) (_ : GCertificate) (_y315 : Nogood) (v313 : Int) : ((Bool)) → (((Bool)) → Option (Bool)) → Option (Bool) := fun v312 rc => ixv _y315 (fun y315 =>
       ob1 (sel (v313 == v218)
         (some (.inr ()))
         (sel (decide (y315.2 > y272.2))
           (some (.inr ()))
           (ob1 (M_p_Contains y272.1 y315.1) (fun z320 =>
             sel (!z320)
              (some (.inr ()))
              (some (.inl (z320, (!z320))))))) : Option ((Bool × Bool) ⊕ Unit))
        (osum
        (fun (_, _) => sel (y315.2 == y272.2)
           (sel v312
             (sel (((y272.1.map cF).length : Int) == ((y315.1.map cF).length : Int))
               (rc ((decide (v313 > v218))))
               (rc (false)))
             (rc (false)))
           (sel v312
             (rc (false))
             (rc (false))))
        (fun _ => rc (v312))))
def M_ce_Reduce_L1_E (_ : Int) (_ : Nogood) (_ : GCertificate) : ((Bool)) → Option (Bool) := fun v312 => some v312
theorem M_ce_Reduce_L1_eq (v218 : Int) (y272 : Nogood) (z1 : GCertificate) (v312 : Bool) (hl : z1.Nogoods.length < 9223372036854775807) : M_ce_Reduce_L1 v218 y272 z1 (((z1.Nogoods.map cN).length : Int).toNat + 1) v312 0 = Rg (M_ce_Reduce_L1_B v218 y272 z1) (M_ce_Reduce_L1_E v218 y272 z1) z1.Nogoods 0 v312 := rg_e1 (L := fun k i v312 => M_ce_Reduce_L1 v218 y272 z1 k v312 i) hl (fun _ _ _ => rfl) v312
def M_ce_Reduce_L2_B (_ : GCertificate) (z1 : GCertificate) (_y272 : Nogood) (v218 : Int) : ((List Nogood)) → (((List Nogood)) → Option (GCertificate)) → Option (GCertificate) := fun v219 rc => ob1 (ixv _y272 (fun y272 =>
        ob1 (M_ce_Reduce_L1 v218 y272 z1 ((((z1.Nogoods.map cN).length : Int)).toNat + 1) true 0 : Option (Bool))
         (fun v296 => sel v296
            (grd ((v219.length + 1) * 32 ≤ 140737488355328) (some (v219 ++ [y272])))
            (some v219))) : Option (List Nogood))
       (fun v270 => rc (v270))
def M_ce_Reduce_L2_E (a0 : GCertificate) (_ : GCertificate) : ((List Nogood)) → Option (GCertificate) := fun v219 => grd (v219.length ≤ 140737488355328) (some ({ Bound := a0.Bound, Nogoods := v219 : GCertificate }))
theorem M_ce_Reduce_L2_eq (a0 : GCertificate) (z1 : GCertificate) (v219 : List Nogood) (hl : z1.Nogoods.length < 9223372036854775807) : M_ce_Reduce_L2 a0 z1 (((z1.Nogoods.map cN).length : Int).toNat + 1) 0 v219 = Rg (M_ce_Reduce_L2_B a0 z1) (M_ce_Reduce_L2_E a0 z1) z1.Nogoods 0 v219 := rg_e2 (L := fun k i v219 => M_ce_Reduce_L2 a0 z1 k i v219) hl (fun k n p y hy h1 h2 => by first | (simp only [M_ce_Reduce_L2, M_ce_Reduce_L2_B, List.length_map, decide_lt h1, sel, ix_at hy, ixv, h2]; done) | (simp only [List.length_map] at h1 hy; (simp only [M_ce_Reduce_L2, M_ce_Reduce_L2_B, List.length_map, decide_lt h1, sel, ix_at hy, ixv, h2]; done))) (fun k p => by simp only [M_ce_Reduce_L2, M_ce_Reduce_L2_E, List.length_map, decide_ge, sel]) v219
end Go.Proofs.YtcpajbglcgbolaaGreat.Am
namespace Go.Proofs.YtcpajbglcgbolaaGreat.Am
open Go.RowKit
theorem claims_perm {a b : List Nogood} (h : a.Perm b) (s : List Int) (d : Int) : claimsF a s d = claimsF b s d := by
  unfold claimsF
  exact h.any_eq
theorem firstN_code {t : GTask} {c : GCertificate} : ∀ (l : List Nogood) (i : Int), (firstN t c l i).2.2 = .nil ∨ (firstN t c l i).2.2 = .no 19
  | [], _ => .inl rfl
  | n :: ns, i => by
    rw [firstN]
    cases firstO t c n t.Ops 0 with
    | some k => exact .inr rfl
    | none => exact firstN_code ns (i + 1)
theorem refC_perm {t : GTask} {b c : GCertificate} (hb : b.Bound = c.Bound) (hp : b.Nogoods.Perm c.Nogoods) : (refC t b).2.2 = (refC t c).2.2 := by
  have ha : ∀ s d, claimsF b.Nogoods s d = claimsF c.Nogoods s d := claims_perm hp
  have ho : ∀ n o, openF t b n o = openF t c n o := fun n o => by
    unfold openF skipO distO
    rw [hb]
    simp only [ha]
  have hn : (firstN t b b.Nogoods 0).2.2 = .nil ↔ (firstN t c c.Nogoods 0).2.2 = .nil := by
    rw [firstN_nil, firstN_nil]
    constructor
    · intro h n hn o hm
      rw [← ho]
      exact h n (hp.mem_iff.2 hn) o hm
    · intro h n hn o hm
      rw [ho]
      exact h n (hp.mem_iff.1 hn) o hm
  unfold refC
  rw [hp.any_eq, hb]
  simp only [ha]
  split
  · rfl
  · split
    · rfl
    · rcases firstN_code (t := t) (c := b) b.Nogoods 0 with h1 | h1
      · rw [h1, hn.1 h1]
      · rcases firstN_code (t := t) (c := c) c.Nogoods 0 with h2 | h2
        · rw [hn.2 h2] at h1; cases h1
        · rw [h1, h2]
theorem ver_perm {t : GTask} (h : Gen t) {b c : GCertificate} (hb : b.Bound = c.Bound) (hp : b.Nogoods.Perm c.Nogoods) (hf : c.Nogoods.length ≤ 12) : verF t b 1048576 = verF t c 1048576 := by
  rw [verF, verF, whereF_ok h (by rw [hp.length_eq]; exact hf), whereF_ok h hf, refF, refF]
  have e0 : properF t.Vars b = properF t.Vars c := by
    unfold properF certF
    rw [hb, hp.length_eq, hp.all_eq, hp.all_eq, hp.all_eq]
  rw [e0]
  cases checkF t with
  | no e => rfl
  | nil =>
    cases properF t.Vars c with
    | no e => rfl
    | nil => exact refC_perm hb hp
def kp (i : Nat) (a : Nogood) (j : Nat) (b : Nogood) : Bool := decide (j = i) || (decide (a.2 < b.2) || (!subF b.1 a.1 || (decide (b.2 = a.2) && (decide (a.1.length = b.1.length) && decide (i < j)))))
def keepAll (i : Nat) (a : Nogood) : List Nogood → Nat → Bool
  | [], _ => true
  | b :: r, j => kp i a j b && keepAll i a r (j + 1)
def redL (l : List Nogood) : List Nogood → Nat → List Nogood
  | [], _ => []
  | a :: r, i => if keepAll i a l 0 = true then a :: redL l r (i + 1) else redL l r (i + 1)
theorem pcont_eq (a b : List Fact) (ha : Sh a) (hb : Sh b) (va : vF (-1) a = true) (vb : vF (-1) b = true) : M_p_Contains a b = some (subF b a) := by
  rw [M_p_Contains, valid_eq a ha, va, ob1_some, sel_tt, valid_eq b hb, vb, ob1_some, sel_tt, contains_eq a b ha hb va vb, ob1_some]
structure CertV (c : GCertificate) : Prop where
  sh : ShC c
  len : c.Nogoods.length ≤ 4096
  v : ∀ n ∈ c.Nogoods, vF (-1) n.1 = true
  le : ∀ n ∈ c.Nogoods, n.1.length ≤ 20
theorem keep_loop {c : GCertificate} (hc : CertV c) (i : Nat) (a : Nogood) (ha : a ∈ c.Nogoods) : ∀ (r : List Nogood) (j : Nat) (v : Bool), (∀ n ∈ r, n ∈ c.Nogoods) → Rg (M_ce_Reduce_L1_B (i : Int) a c) (M_ce_Reduce_L1_E (i : Int) a c) r (j : Int) v = some (v && keepAll i a r j)
  | [], j, v, _ => by rw [Rg, M_ce_Reduce_L1_E, keepAll, Bool.and_true]
  | b :: r, j, v, hr => by
    have hb := hr b (List.mem_cons_self ..)
    have ih : ∀ v, Rg (M_ce_Reduce_L1_B (i : Int) a c) (M_ce_Reduce_L1_E (i : Int) a c) r ((j : Int) + 1) v = some (v && keepAll i a r (j + 1)) := fun v => keep_loop hc i a ha r (j + 1) v (fun n hn => hr n (List.mem_cons_of_mem _ hn))
    rw [Rg, M_ce_Reduce_L1_B, ixv, keepAll, kp]
    by_cases h1 : j = i
    · rw [show ((j : Int) == (i : Int)) = true from by rw [beq_iff_eq]; omega, sel_tt, ob1_some, osum_inr, ih, decide_eq_true h1, Bool.true_or, Bool.true_and]
    · rw [show ((j : Int) == (i : Int)) = false from by rw [beq_eq_false_iff_ne]; omega, sel_ff, sel_dec, decide_eq_false h1, Bool.false_or]
      by_cases h2 : b.2 > a.2
      · rw [if_pos h2, ob1_some, osum_inr, ih, decide_eq_true (show a.2 < b.2 from h2), Bool.true_or, Bool.true_and]
      · rw [if_neg h2, decide_eq_false (show ¬ a.2 < b.2 from h2), Bool.false_or, pcont_eq a.1 b.1 (hc.sh.each a ha) (hc.sh.each b hb) (hc.v a ha) (hc.v b hb), ob1_some]
        cases hs : subF b.1 a.1 with
        | false =>
          rw [Bool.not_false, sel_tt, ob1_some, osum_inr, ih, Bool.true_or, Bool.true_and]
        | true =>
          rw [Bool.not_true, sel_ff, ob1_some, osum_inl, Bool.false_or]
          by_cases h3 : b.2 = a.2
          · rw [show (b.2 == a.2) = true from by rw [beq_iff_eq]; exact h3, sel_tt, decide_eq_true h3, Bool.true_and]
            cases v with
            | false => rw [sel_ff, ih, Bool.false_and, Bool.false_and]
            | true =>
              rw [sel_tt, List.length_map, List.length_map]
              by_cases h4 : a.1.length = b.1.length
              · rw [show ((a.1.length : Int) == (b.1.length : Int)) = true from by rw [beq_iff_eq]; omega, sel_tt, ih, decide_eq_true h4, Bool.true_and, Bool.true_and]
                exact congrArg (fun x => some (x && keepAll i a r (j + 1))) (by rw [decide_eq_decide]; omega)
              · rw [show ((a.1.length : Int) == (b.1.length : Int)) = false from by rw [beq_eq_false_iff_ne]; omega, sel_ff, ih, decide_eq_false h4]
                rfl
          · rw [show (b.2 == a.2) = false from by rw [beq_eq_false_iff_ne]; exact h3, sel_ff, decide_eq_false h3, Bool.false_and, Bool.false_and, Bool.and_false]
            cases v <;> rw [ih, Bool.false_and] <;> rfl
theorem red_loop {c : GCertificate} (hc : CertV c) : ∀ (r : List Nogood) (i : Nat) (v : List Nogood), (∀ n ∈ r, n ∈ c.Nogoods) → v.length + r.length ≤ 1000000 → Rg (M_ce_Reduce_L2_B c c) (M_ce_Reduce_L2_E c c) r (i : Int) v = some { Bound := c.Bound, Nogoods := v ++ redL c.Nogoods r i }
  | [], i, v, _, hl => by
    rw [List.length_nil] at hl
    rw [Rg, M_ce_Reduce_L2_E, grd_t (by omega), redL, List.append_nil]
  | a :: r, i, v, hr, hl => by
    rw [List.length_cons] at hl
    have ih : ∀ v : List Nogood, v.length + r.length ≤ 1000000 → Rg (M_ce_Reduce_L2_B c c) (M_ce_Reduce_L2_E c c) r ((i : Int) + 1) v = some { Bound := c.Bound, Nogoods := v ++ redL c.Nogoods r (i + 1) } := fun v hv => red_loop hc r (i + 1) v (fun n hn => hr n (List.mem_cons_of_mem _ hn)) hv
    have hk := keep_loop hc i a (hr a (List.mem_cons_self ..)) c.Nogoods 0 true (fun _ h => h)
    rw [Rg, M_ce_Reduce_L2_B, ixv, M_ce_Reduce_L1_eq _ _ _ _ hc.sh.list.lt]
    rw [show ((0 : Nat) : Int) = 0 from rfl] at hk
    rw [hk, Bool.true_and, ob1_some, redL]
    cases keepAll i a c.Nogoods 0 with
    | true => rw [sel_tt, grd_t (by omega), ob1_some, ih _ (by simp; omega), if_pos rfl, List.append_assoc]; rfl
    | false => rw [sel_ff, ob1_some, ih _ (by omega), if_neg (by decide)]
theorem clone_loop {c : GCertificate} (hc : CertV c) : ∀ (r : List Nogood) (i : Int) (v : List Nogood), (∀ n ∈ r, n ∈ c.Nogoods) → v.length + r.length ≤ 1000000 → Rg (M_ce_clone_L1_B c) (M_ce_clone_L1_E c) r i v = some { Bound := c.Bound, Nogoods := v ++ r }
  | [], i, v, _, hl => by
    rw [List.length_nil] at hl
    rw [Rg, M_ce_clone_L1_E, grd_t (by omega), List.append_nil]
  | a :: r, i, v, hr, hl => by
    rw [List.length_cons] at hl
    have ha := hc.le a (hr a (List.mem_cons_self ..))
    rw [Rg, M_ce_clone_L1_B, ixv, M_cloneF, grd_t (by omega), ob1_some, grd_t (by omega), grd_t (by omega), clone_loop hc r _ _ (fun n hn => hr n (List.mem_cons_of_mem _ hn)) (by simp; omega), List.append_assoc]
    rfl
theorem reduce_eq {c : GCertificate} (hc : CertV c) (hk : certF c = .nil) : M_ce_Reduce c = some { Bound := c.Bound, Nogoods := redL c.Nogoods c.Nogoods 0 } := by
  have hl := hc.len
  rw [M_ce_Reduce, M_ce_clone, M_ce_clone_L1_eq _ _ hc.sh.list.lt, clone_loop hc _ _ _ (fun _ h => h) (by simp; omega), ob1_some, ccheck_eq c hc.sh, hk, ob1_some]
  show M_ce_Reduce_L2 c c ((((c.Nogoods).map cN).length : Int).toNat + 1) 0 [] = _
  rw [M_ce_Reduce_L2_eq _ _ _ hc.sh.list.lt]
  exact red_loop hc c.Nogoods 0 [] (fun _ h => h) (by simp; omega)
def Bl (b a : Nogood) : Prop := b.2 ≤ a.2 ∧ subF b.1 a.1 = true
theorem allK_no {i : Nat} {a : Nogood} : ∀ (r : List Nogood) (j : Nat), keepAll i a r j ≠ true → ∃ k b, r[k]? = some b ∧ kp i a (j + k) b = false
  | [], _, h => absurd rfl h
  | b :: r, j, h => by
    rw [keepAll] at h
    cases hk : kp i a j b with
    | false => exact ⟨0, b, rfl, hk⟩
    | true =>
      rw [hk, Bool.true_and] at h
      obtain ⟨k, x, h1, h2⟩ := allK_no r (j + 1) h
      exact ⟨k + 1, x, h1, by rw [show j + (k + 1) = j + 1 + k from by omega]; exact h2⟩
theorem mem_red {l : List Nogood} {a : Nogood} : ∀ (r : List Nogood) (i j : Nat), r[j]? = some a → keepAll (i + j) a l 0 = true → a ∈ redL l r i
  | [], i, j, h, _ => by simp at h
  | b :: r, i, 0, h, hk => by
    simp at h
    subst h
    rw [Nat.add_zero] at hk
    rw [redL, if_pos hk]
    exact List.mem_cons_self ..
  | b :: r, i, j + 1, h, hk => by
    have := mem_red r (i + 1) j (by simpa using h) (by rw [show i + 1 + j = i + (j + 1) from by omega]; exact hk)
    rw [redL]
    split
    · exact List.mem_cons_of_mem _ this
    · exact this
theorem red_sub (l : List Nogood) : ∀ (r : List Nogood) (i : Nat), (redL l r i).Sublist r
  | [], _ => .slnil
  | a :: r, i => by
    rw [redL]
    split
    · exact (red_sub l r (i + 1)).cons_cons a
    · exact (red_sub l r (i + 1)).cons a
theorem subO_len : ∀ (a b : List Fact), a.Nodup → (∀ x ∈ a, x ∈ b) → a.length ≤ b.length
  | [], _, _, _ => Nat.zero_le _
  | x :: a, b, hn, h => by
    obtain ⟨h1, h2⟩ := List.nodup_cons.1 hn
    have hx := h x (List.mem_cons_self ..)
    have := subO_len a (b.erase x) h2 fun y hy => (List.mem_erase_of_ne (fun e => h1 (by rw [← e]; exact hy))).2 (h y (List.mem_cons_of_mem _ hy))
    have hl := List.length_erase_of_mem hx
    have hp := List.length_pos_of_mem hx
    rw [List.length_cons]
    omega
theorem ascO_nodup {l : List Fact} (h : vF (-1) l = true) : l.Nodup := ((vF_iff' l).1 h).2.imp fun {a b} hab e => by rw [e] at hab; exact absurd hab (Int.lt_irrefl _)
theorem kp_no {i j : Nat} {a b : Nogood} (h : kp i a j b = false) : j ≠ i ∧ Bl b a ∧ ¬ (b.2 = a.2 ∧ a.1.length = b.1.length ∧ i < j) := by
  unfold kp at h
  simp only [Bool.or_eq_false_iff, decide_eq_false_iff_not, Bool.not_eq_false', Bool.and_eq_false_iff] at h
  obtain ⟨h1, h2, h3, h4⟩ := h
  exact ⟨h1, ⟨by omega, h3⟩, fun ⟨a1, a2, a3⟩ => by rcases h4 with h4 | h4 | h4 <;> exact h4 (by assumption)⟩
theorem descend (l : List Nogood) (hpos : ∀ x ∈ l, 0 ≤ x.2) (hv : ∀ x ∈ l, vF (-1) x.1 = true) (P : Nogood → Prop) (hP : ∀ a b, Bl b a → P a → P b) (i : Nat) (x : Nogood) (hx : l[i]? = some x) (hPx : P x) : ∃ y ∈ redL l l 0, P y := by
  by_cases hk : keepAll i x l 0 = true
  · exact ⟨x, mem_red l 0 i hx (by rw [Nat.zero_add]; exact hk), hPx⟩
  · obtain ⟨j, b, hb, hkb⟩ := allK_no l 0 hk
    rw [Nat.zero_add] at hkb
    obtain ⟨hj, hB, hne⟩ := kp_no hkb
    have hbm := List.mem_of_getElem? hb
    have hx0 := hpos x (List.mem_of_getElem? hx)
    have hb0 := hpos b hbm
    have hl := subO_len b.1 x.1 (ascO_nodup (hv b hbm)) (subF_iff.1 hB.2)
    have hle := hB.1
    have hlex : b.2.toNat < x.2.toNat ∨ (b.2.toNat = x.2.toNat ∧ (b.1.length < x.1.length ∨ (b.1.length = x.1.length ∧ j < i))) := by
      by_cases h1 : b.2 = x.2
      · refine .inr ⟨by omega, ?_⟩
        by_cases h2 : b.1.length = x.1.length
        · refine .inr ⟨h2, ?_⟩
          by_cases h3 : j < i
          · exact h3
          · exact absurd ⟨h1, h2.symm, by omega⟩ hne
        · exact .inl (by omega)
      · exact .inl (by omega)
    exact descend l hpos hv P hP j b hb (hP x b hB hPx)
termination_by (x.2.toNat, x.1.length, i)
decreasing_by
  rcases hlex with h | ⟨h1, h2 | ⟨h2, h3⟩⟩
  · exact Prod.Lex.left _ _ h
  · rw [h1]; exact Prod.Lex.right _ (Prod.Lex.left _ _ h2)
  · rw [h1, h2]; exact Prod.Lex.right _ (Prod.Lex.right _ h3)
theorem holds_sub {s : List Int} {a b : List Fact} (h : subF b a = true) (ha : holdsF s a = true) : holdsF s b = true := by
  unfold holdsF at ha ⊢
  rw [List.all_eq_true] at ha ⊢
  exact fun x hx => ha x (subF_iff.1 h x hx)
theorem red_claims {c : GCertificate} (hc : CertV c) (h0 : ∀ n ∈ c.Nogoods, 0 ≤ n.2) (s : List Int) (d : Int) : claimsF (redL c.Nogoods c.Nogoods 0) s d = claimsF c.Nogoods s d := by
  unfold claimsF
  rw [Bool.eq_iff_iff, List.any_eq_true, List.any_eq_true]
  constructor
  · rintro ⟨n, hn, h⟩
    exact ⟨n, (red_sub _ _ _).subset hn, h⟩
  · rintro ⟨n, hn, h⟩
    obtain ⟨i, hi⟩ := List.getElem?_of_mem hn
    exact descend c.Nogoods h0 hc.v (fun n => (decide (n.2 ≤ d) && holdsF s n.1) = true) (fun a b hB h => by
      simp only [Bool.and_eq_true, decide_eq_true_iff] at h ⊢
      exact ⟨Int.le_trans hB.1 h.1, holds_sub hB.2 h.2⟩) i n hi h
theorem red_acc {t : GTask} {c : GCertificate} (hv : CertV c) (hc : CertP t.Vars c) (ha : Acc t c) : CertP t.Vars { Bound := c.Bound, Nogoods := redL c.Nogoods c.Nogoods 0 } ∧ Acc t { Bound := c.Bound, Nogoods := redL c.Nogoods c.Nogoods 0 } := by
  have hs := fun n => (red_sub c.Nogoods c.Nogoods 0).subset (a := n)
  have hcl := red_claims hv hc.d0
  refine ⟨⟨hc.b0, hc.b1, Nat.le_trans (red_sub _ _ _).length_le hc.len, fun n hn => hc.prop n (hs n hn), fun n hn => hc.frm n (hs n hn), fun n hn => hc.d0 n (hs n hn), fun n hn => hc.d1 n (hs n hn), fun n hn => hc.d2 n (hs n hn)⟩, ⟨fun n hn => ha.init n (hs n hn), fun hb s hm hh => ?_, fun n hn o ho hsk s hm hi => ?_⟩⟩
  · exact (hcl s 0).trans (ha.goal hb s hm hh)
  · exact (hcl s _).trans (ha.step n (hs n hn) o ho hsk s hm hi)
theorem orders_true (g : Nat) (hg : 70 ≤ g) (t : GTask) (ht : ShT t) (c : GCertificate) (hc : ShC c) : M_l31_CheckerOrders g t c = some true := by
  have aw := awake_eq g hg
  rw [M_l31_CheckerOrders, aw, gentle_eq t ht, few_eq c hc]
  refine guard3' (fun hge hfe => ?_) rfl
  have h := gentle_gen hge
  have hf : c.Nogoods.length ≤ 12 := by
    unfold fewF at hfe
    simp only [Bool.and_eq_true, decide_eq_true_iff] at hfe
    exact hfe.2
  have hf20 : ∀ n ∈ c.Nogoods, n.1.length ≤ 20 := by
    unfold fewF at hfe
    simp only [Bool.and_eq_true, List.all_eq_true, decide_eq_true_iff] at hfe
    exact hfe.1
  rw [osum_inl, ccheck_eq c hc, ob1_some]
  cases hk : certF c with
  | no e => rfl
  | nil =>
    obtain ⟨_, _, hlen, hfrm, hd⟩ := (certF_nil c).1 hk
    have hv : CertV c := ⟨hc, hlen, fun n hn => by have := hfrm n hn; unfold frmF at this; rw [Bool.and_eq_true] at this; exact this.1, fun n hn => hf20 n hn⟩
    have hperm := certSort_perm c.Bound c.Nogoods
    have hsz : szN c.Nogoods = true := by
      rw [szN, Bool.and_eq_true, decide_eq_true_iff, List.all_eq_true]
      exact ⟨by omega, fun x hx => decide_eq_true (by have := hf20 x hx; omega)⟩
    have hs1 : ShC { Bound := c.Bound, Nogoods := sortC c.Bound c.Nogoods } := ⟨by have := hc.list; unfold Sh at this ⊢; simp only; rw [hperm.length_eq]; exact this, fun n hn => hc.each n (hperm.mem_iff.1 hn)⟩
    have hs2 : ShC { Bound := c.Bound, Nogoods := redL c.Nogoods c.Nogoods 0 } := ⟨by have := hc.list; unfold Sh at this ⊢; exact Nat.le_trans (red_sub _ _ _).length_le this, fun n hn => hc.each n ((red_sub c.Nogoods c.Nogoods 0).subset hn)⟩
    show ob1 (M_checker_Verify g t c 1048576) _ = _
    rw [verify_eq t ht c hc _ g hg, ob1_some, M_certSort, if_pos hsz, ob1_some, verify_eq t ht _ hs1 _ g hg, ob1_some, reduce_eq hv hk, ob1_some, verify_eq t ht _ hs2 _ g hg, ob1_some, ver_perm h (c := c) (b := { Bound := c.Bound, Nogoods := sortC c.Bound c.Nogoods }) rfl hperm hf]
    cases hver : verF t c 1048576 with
    | nil =>
      obtain ⟨hcp, ha⟩ := (ver_ok h hf).1 hver
      rw [(ver_ok h (c := { Bound := c.Bound, Nogoods := redL c.Nogoods c.Nogoods 0 }) (Nat.le_trans (red_sub _ _ _).length_le hf)).2 (red_acc hv hcp ha)]
      rfl
    | no e =>
      show ob1 (M_b_Num (Er.no e)) (fun z25 => ob1 (M_b_Num (Er.no e)) (fun z26 => some (z25 == z26))) = _
      have hn : ∃ z, M_b_Num (Er.no e) = some z := ⟨_, rfl⟩
      obtain ⟨z, hz⟩ := hn
      rw [hz, ob1_some, ob1_some, beq_self_eq_true]
end Go.Proofs.YtcpajbglcgbolaaGreat.Am
namespace Go.Proofs.YtcpajbglcgbolaaGreat
open Go.RowKit Go.ChangeShapes Go.WideShapes Go.Deep Go.Joins

def I64 (x : Int) : Prop := -9223372036854775808 ≤ x ∧ x ≤ 9223372036854775807
theorem I64.of {x : Int} (h : (Lit.int .i64 x).wf = true) : I64 x := by
  have := bounds_i64 h
  exact this

section
variable {H : Type} {enc : TypeId × Value → H} {P : Program} {w : World} {base : Nat} {spare : Nat → Bool} {held : Bool}

def Sized (P : Program) (t : TypeId) (d : DataW H) : Prop := ∀ n ∈ d.weights P t, n ≤ reachBytes
theorem sized_arg {ts : List TypeId} {ds : List (DataW H)} (h : (DataW.weightsEach P ts ds).all (· ≤ reachBytes) = true) {j : Nat} {t : TypeId} {d : DataW H} (ht : ts[j]? = some t) (hd : ds[j]? = some d) : Sized P t d :=
  fun n hn => of_decide_eq_true (List.all_eq_true.1 h n (DataW.weights_mem_each ht hd n hn))
theorem sized_field {t : TypeId} {fs : Array Field} {parts : List (DataW H)} (h : Sized P t (.agg parts)) (hu : P.underlying t = some (.struct fs)) {j : Nat} {f : Field} {d : DataW H} (hf : fs[j]? = some f) (hd : parts[j]? = some d) : Sized P f.type d :=
  fun n hn => h n (by
    simp only [DataW.weights, hu]
    exact DataW.weights_mem_each (j := j) (by simp [List.getElem?_map, hf]) hd n hn)
theorem weightsAll_mem {e : TypeId} : ∀ {l : List (DataW H)} {d : DataW H}, d ∈ l → ∀ n ∈ d.weights P e, n ∈ DataW.weightsAll P e l
  | x :: l, d, hd, n, hn => by
    simp only [DataW.weightsAll, List.mem_append]
    rcases List.mem_cons.1 hd with rfl | h
    · exact Or.inl hn
    · exact Or.inr (weightsAll_mem h n hn)
theorem sized_elem {t e : TypeId} {elems sp : List (DataW H)} (h : Sized P t (.slice elems sp)) (hu : P.underlying t = some (.slice e)) {d : DataW H} (hd : d ∈ elems) : Sized P e d :=
  fun n hn => h n (by
    simp only [DataW.weights, hu, List.mem_cons, List.mem_append]
    exact Or.inr (Or.inl (weightsAll_mem hd n hn)))
theorem sized_len {t e : TypeId} {elems sp : List (DataW H)} (h : Sized P t (.slice elems sp)) (hu : P.underlying t = some (.slice e)) : elems.length * P.bytesOf e ≤ 140737488355328 := by
  have h1 := h ((elems.length + sp.length) * P.bytesOf e) (by simp [DataW.weights, hu])
  have h2 : elems.length * P.bytesOf e ≤ (elems.length + sp.length) * P.bytesOf e := Nat.mul_le_mul_right _ (by omega)
  have h3 : reachBytes ≤ 140737488355328 := by decide
  omega

end

theorem spot_of_cell {w : World} {p : Addr} {v : Value} (h : w.cell? p = some v) : p.spot = none := by
  unfold World.cell? at h
  split at h
  · split at h
    · cases h
    · rename_i hs; simpa using hs
  · cases h
theorem addr_of_cell {w : World} {a : Addr} {k : Nat} {v : Value} (h0 : ∃ u, w.cell? (a.add 0) = some u) (h : w.cell? (a.add k) = some v) : a = ⟨a.block, a.off, none⟩ ∧ w.cell? ⟨a.block, a.off + k, none⟩ = some v := by
  obtain ⟨u, hu⟩ := h0
  have hs := spot_of_cell hu
  obtain ⟨b, off, sp⟩ := a
  simp [Addr.add] at hs
  subst hs
  refine ⟨rfl, ?_⟩
  rw [← h]
  congr 1
  unfold Addr.add
  split
  · subst k; rfl
  · rfl

theorem list_of {α : Type} (n : Nat) (R : Nat → α → Prop) (h : ∀ i, i < n → ∃ x, R i x) : ∃ l : List α, l.length = n ∧ ∀ k x, l[k]? = some x → R k x := by
  induction n with
  | zero => exact ⟨[], rfl, fun k x hx => by simp at hx⟩
  | succ n ih =>
    obtain ⟨l, hl, hr⟩ := ih (fun i hi => h i (by omega))
    obtain ⟨x, hx⟩ := h n (by omega)
    refine ⟨l ++ [x], by simp [hl], fun k y hy => ?_⟩
    by_cases hk : k < n
    · rw [List.getElem?_append_left (by omega)] at hy
      exact hr k y hy
    · rw [List.getElem?_append_right (by omega)] at hy
      have hk' : k - l.length = 0 := by
        have := (List.getElem?_eq_some_iff.1 hy).1
        simp at this
        omega
      rw [hk'] at hy
      simp at hy
      subst hy
      obtain rfl : k = n := by omega
      exact hx

variable {H : Type} {enc : TypeId × Value → H} {w : World} {base : Nat} {spare : Nat → Bool} {held : Bool}
end Go.Proofs.YtcpajbglcgbolaaGreat
namespace Go.Proofs.YtcpajbglcgbolaaGreat.Am
open Go.RowKit Go.ChangeShapes Go.WideShapes Go.Deep Go.Joins

abbrev mZ : MM := mO (fun _ => False)
theorem noZ (b : Nat) : ¬ Owned nov mZ b := fun h => owned_nov.1 h

section
variable {H : Type} {enc : TypeId × Value → H} {P : Program} {w : World} {base : Nat} {spare : Nat → Bool} {held : Bool}
def CellsRv (w : World) (es : List AV) (cs : List Value) : Prop := es.length = cs.length ∧ (∀ (j : Nat) (y : AV) (u : Value), es[j]? = some y → cs[j]? = some u → RV w nov mZ y u ∧ u.oneCell' = true) ∧ ∀ y ∈ es, Fr y
def Opens (enc : TypeId × Value → H) (P : Program) (w : World) (base : Nat) (spare : Nat → Bool) (held : Bool) (t : TypeId) {α : Type} (en : α → List AV) (R : α → Prop) : Prop :=
  ∀ (fuel : Nat) (cs : List Value) (x : DataW H × List MemPlace), DataW.trod enc P w base spare held fuel t cs = some x → Sized P t x.1 → ∃ a, R a ∧ CellsRv w (en a) cs

theorem cells_one1 {y : AV} {u : Value} (h : RV w nov mZ y u) (h1 : u.oneCell' = true) (hf : Fr y) : CellsRv w [y] [u] := by
  refine ⟨rfl, fun j z v hz hv => ?_, fun z hz => by simp at hz; subst hz; exact hf⟩
  cases j with
  | zero => simp at hz hv; subst hz hv; exact ⟨h, h1⟩
  | succ j => simp at hz
theorem opens_int {t : TypeId} {k : IntKind} (ht : P.underlying t = some (.int k)) : Opens enc P w base spare held t (fun z : Int => [.c (.int k z)]) (fun z => (Lit.int k z).wf = true) := by
  intro fuel cs x h _
  obtain ⟨z, rfl, _, wz⟩ := DataW.trod_int ht h
  exact ⟨z, wz, cells_one1 (.c _) rfl (.c _)⟩
theorem opens_slice {t e : TypeId} {α : Type} {en : α → List AV} {R : α → Prop} {sz by_ : Nat} (ht : P.underlying t = some (.slice e)) (hc : P.cellsOf e = sz) (hb : P.bytesOf e = by_) (hby : 0 < by_) (hsz : 0 < sz) (he : Opens enc P w base spare held e en R) :
    Opens enc P w base spare held t (fun l : List α => [.sl sz (l.map en)]) (fun l => l.length * by_ ≤ 140737488355328 ∧ ∀ x ∈ l, R x) := by
  intro fuel cs x h hs
  rcases open_slice ht h with ⟨rfl, _⟩ | ⟨a, len, cap, m, n, D, Pl, rfl, _, hl, hm, hmm, rfl, hi⟩
  · refine ⟨[], ⟨by simp, by simp⟩, cells_one1 ?_ rfl (.sl (fun e he => by cases he))⟩
    exact RV.sl (l := []) (b := 0) (off := 0) (f := fun _ _ => undef) (fun h => absurd rfl h) (Nat.zero_le _) (by simp) (fun k e h => by simp at h) (fun k j e x h => by simp at h) (fun k j e x h => by simp at h) (fun e he => by cases he)
  · have hlen := sized_len hs ht
    rw [hb] at hlen
    simp only [List.length_map, List.length_range] at hlen
    have hml : len ≤ m := by rw [hmm]; split <;> omega
    have hcell : ∀ i, i < len → ∃ z : α, R z ∧ ∃ cs', CellsRv w (en z) cs' ∧ cs'.length = sz ∧ ∀ j, j < sz → w.cell? (a.add (i * sz + j)) = cs'[j]? := by
      intro i hi'
      obtain ⟨cs', hcc, ht'⟩ := hi i (by omega)
      rw [hc] at hcc
      obtain ⟨z, hz, hcr⟩ := he n cs' _ ht' (sized_elem hs ht (List.mem_map.2 ⟨i, by simpa using hi', rfl⟩))
      obtain ⟨_, hcl', hat⟩ := World.cells?_some hcc
      exact ⟨z, hz, cs', hcr, hcl', fun j hj => by rw [← hat j hj, Go.Deep.add_add]⟩
    obtain ⟨l, hl', hat⟩ := list_of len _ hcell
    have hR : ∀ x ∈ l, R x := fun x hx => by
      obtain ⟨k, hk⟩ := List.getElem?_of_mem hx
      exact (hat k x hk).1
    have hfr : FrL (l.map en) := by
      intro e he
      obtain ⟨x, hx, rfl⟩ := List.mem_map.1 he
      obtain ⟨k, hk⟩ := List.getElem?_of_mem hx
      obtain ⟨_, cs', hcr, _⟩ := hat k x hk
      exact hcr.2.2
    refine ⟨l, ⟨by rw [hl']; exact hlen, hR⟩, cells_one1 ?_ rfl (.sl hfr)⟩
    have key : ∀ (k j : Nat) (e : List AV) (y : AV), (l.map en)[k]? = some e → e[j]? = some y → e.length = sz ∧ ∃ u, w.cell? ⟨a.block, a.off + (k * sz + j), none⟩ = some u ∧ u.oneCell' = true ∧ RV w nov mZ y u ∧ a = ⟨a.block, a.off, none⟩ ∧ a.block < w.heap.size := by
      intro k j e y hk hj
      rw [List.getElem?_map] at hk
      cases hx : l[k]? with
      | none => rw [hx] at hk; cases hk
      | some z =>
        rw [hx] at hk
        simp at hk
        subst hk
        obtain ⟨_, cs', ⟨c1, c2, _⟩, c4, c5⟩ := hat k z hx
        have hjl : j < sz := by rw [← c4, ← c1]; exact (List.getElem?_eq_some_iff.1 hj).1
        have hcj := c5 j hjl
        have hget : cs'[j]? = some (cs'[j]'(by omega)) := List.getElem?_eq_getElem _
        rw [hget] at hcj
        obtain ⟨r1, r2⟩ := c2 j y _ hj hget
        have h0 : 0 < len := by have := (List.getElem?_eq_some_iff.1 hx).1; omega
        obtain ⟨_, _, cs0, ⟨_, _, _⟩, d4, d5⟩ := hcell 0 h0
        have hz0 := d5 0 hsz
        rw [List.getElem?_eq_getElem (by omega)] at hz0
        obtain ⟨e1, e2⟩ := addr_of_cell ⟨_, by simpa using hz0⟩ hcj
        exact ⟨by rw [c1, c4], _, e2, r2, r1, e1, lt_of_cell (p := ⟨a.block, a.off + (k * sz + j), none⟩) e2⟩
    have hlen2 : (l.map en).length = len := by simp [hl']
    have := RV.sl (w := w) (vs := nov) (m := mZ) (sz := sz) (l := l.map en) (A := some a) (cap := cap) (b := a.block) (off := a.off) (f := fun k j => (w.cell? ⟨a.block, a.off + (k * sz + j), none⟩).getD undef)
      (fun hne => ?_) (by omega) (by rw [hlen2]; exact Nat.le_trans (Nat.le_mul_of_pos_right _ hby) hlen) (fun k e hk => ?_) (fun k j e y hk hj => ?_) (fun k j e y hk hj => ?_) hfr
    · rw [hlen2] at this
      exact this
    · have h0 : 0 < (l.map en).length := List.length_pos_iff.2 hne
      have hk := List.getElem?_eq_getElem h0
      obtain ⟨x0, hx0, hx0'⟩ : ∃ x0, l[0]? = some x0 ∧ (l.map en)[0] = en x0 := by
        have h1 : 0 < l.length := by simpa using h0
        exact ⟨l[0], List.getElem?_eq_getElem h1, by simp⟩
      obtain ⟨_, cs', ⟨c1, _, _⟩, c4, _⟩ := hat 0 x0 hx0
      have hel : 0 < ((l.map en)[0]).length := by rw [hx0', c1, c4]; exact hsz
      obtain ⟨_, _, _, _, _, q1, q2⟩ := key 0 0 _ _ hk (List.getElem?_eq_getElem hel)
      exact ⟨by rw [← q1], noZ _, q2⟩
    · rw [List.getElem?_map] at hk
      cases hx : l[k]? with
      | none => rw [hx] at hk; cases hk
      | some z =>
        rw [hx] at hk
        simp at hk
        subst hk
        obtain ⟨_, cs', ⟨c1, _, _⟩, c4, _⟩ := hat k z hx
        rw [c1, c4]
    · obtain ⟨_, u, q1, q2, _⟩ := key k j e y hk hj
      rw [q1]
      exact ⟨rfl, q2⟩
    · obtain ⟨_, u, q1, _, q3, _⟩ := key k j e y hk hj
      rw [q1]
      exact q3

def OpensF (enc : TypeId × Value → H) (P : Program) (w : World) (base : Nat) (spare : Nat → Bool) (held : Bool) (fs : List Field) (off tot : Nat) {α : Type} (en : α → List AV) (R : α → Prop) : Prop :=
  ∀ (fuel : Nat) (cs : List Value) (xs : List (DataW H × List MemPlace)), cs.length = tot → xs.length = fs.length → (∀ (i : Nat) (f : Field), fs[i]? = some f → DataW.trod enc P w base spare held fuel f.type ((cs.drop f.offset).take (P.cellsOf f.type)) = xs[i]?) →
    (∀ (i : Nat) (f : Field) (x : DataW H × List MemPlace), fs[i]? = some f → xs[i]? = some x → Sized P f.type x.1) → ∃ a, R a ∧ CellsRv w (en a) (cs.drop off)
theorem cells_append {a b : List AV} {xs ys : List Value} (h1 : CellsRv w a xs) (h2 : CellsRv w b ys) : CellsRv w (a ++ b) (xs ++ ys) := by
  refine ⟨by rw [List.length_append, List.length_append, h1.1, h2.1], fun j y u hy hu => ?_, fun y hy => ?_⟩
  · rcases Nat.lt_or_ge j a.length with hlt | hge
    · rw [List.getElem?_append_left hlt] at hy
      rw [List.getElem?_append_left (by rw [← h1.1]; exact hlt)] at hu
      exact h1.2.1 j y u hy hu
    · rw [List.getElem?_append_right hge] at hy
      rw [List.getElem?_append_right (by rw [← h1.1]; exact hge)] at hu
      rw [h1.1] at hy
      exact h2.2.1 _ y u hy hu
  · rcases List.mem_append.1 hy with h | h
    · exact h1.2.2 y h
    · exact h2.2.2 y h
theorem opensF_last {f : Field} {off tot : Nat} {α : Type} {en : α → List AV} {R : α → Prop} (ho : f.offset = off) (htot : off + P.cellsOf f.type = tot) (h : Opens enc P w base spare held f.type en R) : OpensF enc P w base spare held [f] off tot en R := by
  intro fuel cs xs hcl hx ht hs
  obtain ⟨x, rfl⟩ := List.length_eq_one_iff.1 hx
  have h1 := ht 0 f rfl
  obtain ⟨a, ha, hc⟩ := h fuel _ x h1 (hs 0 f x rfl rfl)
  refine ⟨a, ha, ?_⟩
  rw [ho, List.take_of_length_le (by simp; omega)] at hc
  exact hc
theorem opensF_cons {f : Field} {fs : List Field} {off off' tot : Nat} {α β : Type} {en : α → List AV} {R : α → Prop} {en' : β → List AV} {R' : β → Prop} (ho : f.offset = off) (hoff : off + P.cellsOf f.type = off') (h : Opens enc P w base spare held f.type en R) (h' : OpensF enc P w base spare held fs off' tot en' R') :
    OpensF enc P w base spare held (f :: fs) off tot (fun p : α × β => en p.1 ++ en' p.2) (fun p => R p.1 ∧ R' p.2) := by
  intro fuel cs xs hcl hx ht hs
  cases xs with
  | nil => simp at hx
  | cons x xs =>
    obtain ⟨a, ha, hc⟩ := h fuel _ x (ht 0 f rfl) (hs 0 f x rfl rfl)
    obtain ⟨b, hb, hc'⟩ := h' fuel cs xs hcl (by simpa using hx) (fun i g hg => by simpa using ht (i + 1) g (by simpa using hg)) (fun i g y hg hy => hs (i + 1) g y (by simpa using hg) (by simpa using hy))
    refine ⟨(a, b), ⟨ha, hb⟩, ?_⟩
    rw [ho] at hc
    have : cs.drop off = (cs.drop off).take (P.cellsOf f.type) ++ cs.drop off' := by
      rw [← hoff, ← List.drop_drop, List.take_append_drop]
    rw [this]
    exact cells_append hc hc'
theorem opens_struct {t : TypeId} {fs : Array Field} {α : Type} {en : α → List AV} {R : α → Prop} (ht : P.underlying t = some (.struct fs)) (h : OpensF enc P w base spare held fs.toList 0 (P.cellsOf t) en R) : Opens enc P w base spare held t en R := by
  intro fuel cs x hx hs
  obtain ⟨xs, n, _, rfl, hcl, hxl, hf⟩ := DataW.trod_struct ht hx
  obtain ⟨a, ha, hc⟩ := h n cs xs hcl (by simpa using hxl) (fun i f hi => hf i f (by simpa using hi)) (fun i f y hi hy => sized_field hs ht (j := i) (by simpa using hi) (by simp [List.getElem?_map, hy]))
  exact ⟨a, ha, by simpa using hc⟩

theorem agg_rv {es : List AV} {us : Array Value} (h : CellsRv w es us.toList) : RV w nov mZ (.agg es) (.agg us) :=
  .agg (by rw [h.1]; simp) (fun j y u hy hu => (h.2.1 j y u hy (by simpa using hu)).1)
end
end Go.Proofs.YtcpajbglcgbolaaGreat.Am
namespace Go.Proofs.YtcpajbglcgbolaaGreat
open Go.RowKit Go.WideShapes Go.ChangeShapes Go.ChangeAt
section
variable {H : Type} {enc : TypeId × Value → H} {P : Program}
theorem post_of_below {f : Func} {s : ChangeSpec} {apart fresh handsOn again : Bool} {W W' : World} {args : Array Value} {v : Value} {ds gs : List (DataW H)} {before pa pv : List MemPlace}
    (hW : DataW.Whole enc P f.params.toList s.vars apart W args.toList ds gs before)
    (hres : ∀ (b : Nat) (sp : Nat → Bool) (hd : Bool), DataW.TrodAll enc P W' b sp hd f.resultTypes.toList (v.resultList f.resultTypes.size) (s.fn H (ds ++ gs)).results [])
    (hargs : ∀ sp : Nat → Bool, (∀ p ∈ before, sp p.block = true) → DataW.TrodAll enc P W' 0 sp true f.params.toList args.toList (s.fn H (ds ++ gs)).args pa)
    (hvars : ∀ sp : Nat → Bool, (∀ p ∈ before, sp p.block = true) → DataW.TrodVars enc P W' sp s.vars (s.fn H (ds ++ gs)).vars pv)
    (hps : before = pa ++ pv) (hb : Below W.heap.size W W')
    (hok : ∀ (j : Nat) (t : TypeId) (r : Value), f.resultTypes[j]? = some t → (v.resultList f.resultTypes.size)[j]? = some r → Value.okWide P W' .any 0 t r) :
    s.post enc P f apart fresh handsOn again W args v W' := by
  have hlt : ∀ p ∈ before, p.block < W.heap.size := fun p hp => hW.lt p hp
  have hold : ∀ p ∈ before, (fun b => decide (b < W.heap.size)) p.block = true := fun p hp => by simpa using hlt p hp
  refine ⟨ds, gs, before, [], pa, pv, hW, hres _ _ _, hargs _ hold, hvars _ hold, World.keptBut_mono (fun p hp => ⟨hp, ?_⟩) (hb.frame (· ∈ before)), fun _ => ?_⟩
  · rw [hps, List.mem_append] at hp
    exact Or.inr hp
  · obtain ⟨_, _, _, _, _, hz, hn⟩ := hW
    refine ⟨hok, _, _, ([] ++ pa) ++ pv, ⟨[] ++ pa, pv, trodAll_append (hargs _ (fun _ _ => rfl)) (hres _ _ _), hvars _ (fun _ _ => rfl), rfl, ?_, ?_⟩, ?_⟩
    · intro b off hp
      have hin : MemPlace.cell b off ∈ before := by rw [hps]; simpa using hp
      rw [hb.frozen (hlt _ hin)]
      exact hz b off hin
    · intro ha
      have := hn ha
      rw [hps] at this
      simpa using this
    · intro p hp _
      rw [hps]
      simpa using hp

theorem trodAll_keep (hl : laidOutB P = true) {W W' : World} (hb : Below W.heap.size W W') (sp : Nat → Bool) (ts : List TypeId) : ∀ (vs : List Value) (ds : List (DataW H)) (ps : List MemPlace), (∀ t ∈ ts, P.readableRec t = true ∧ t < P.types.size) →
    DataW.TrodAll enc P W 0 (fun _ => true) true ts vs ds ps → (∀ x ∈ ps, x.block < W.heap.size) → (∀ x ∈ ps, sp x.block = true) → DataW.TrodAll enc P W' 0 sp true ts vs ds ps := by
  induction ts with
  | nil =>
    intro vs ds ps _ h _ _
    obtain ⟨rfl, rfl, rfl⟩ := trodAll_nil h
    exact trodAll_mk0
  | cons t ts ih =>
    intro vs ds ps hts h hlt hsp
    obtain ⟨v0, vs0, d0, ds0, p0, q0, rfl, rfl, rfl, h0, r0⟩ := trodAll_cons h
    obtain ⟨hr, hrow⟩ := hts t (by simp)
    exact trodAll_cons_mk (WideElems.Trod_stays hl hr hrow h0 (fun x hx => hb.same (hlt x (by simp [hx]))) (fun x hx => hsp x (by simp [hx])))
      (ih _ _ _ (fun t ht => hts t (by simp [ht])) r0 (fun x hx => hlt x (by simp [hx])) (fun x hx => hsp x (by simp [hx])))

theorem law_post (hl : laidOutB P = true) {f : Func} {s : ChangeSpec} {T : TypeId} {W W' : World} {args : Array Value} {ds : List (DataW H)} {before : List MemPlace}
    (hvars : s.vars = []) (hrt : f.resultTypes = #[T]) (hT : P.underlying T = some .bool) (hts : f.params.toList.all (fun t => P.readableRec t && decide (t < P.types.size)) = true)
    (hW : DataW.Whole enc P f.params.toList s.vars false W args.toList ds [] before) (hA : DataW.TrodAll enc P W 0 (fun _ => true) true f.params.toList args.toList ds before)
    (e1 : (s.fn H (ds ++ [])).results = [.lit (.bool true)]) (e2 : (s.fn H (ds ++ [])).args = ds) (e3 : (s.fn H (ds ++ [])).vars = []) (hb : Below W.heap.size W W') :
    s.post enc P f false true false false W args (.bool true) W' := by
  have hlt : ∀ x ∈ before, x.block < W.heap.size := fun x hx => hW.lt x hx
  refine post_of_below (pa := before) (pv := []) hW ?_ ?_ ?_ (by simp) hb ?_
  · intro b sp hd
    rw [e1, hrt]
    exact trodAll_cons_mk (shut_bool hT true) trodAll_mk0
  · intro sp hsp
    rw [e2]
    exact trodAll_keep hl hb sp _ _ _ _ (fun t ht => by simpa using List.all_eq_true.1 hts t ht) hA hlt hsp
  · intro sp hsp
    rw [e3, hvars]
    rfl
  · exact ok_one hrt rfl (okWide_bool_mk hT true)
end
end Go.Proofs.YtcpajbglcgbolaaGreat
namespace Go.Proofs.YtcpajbglcgbolaaGreat.Am
open Go.RowKit Go.ChangeShapes Go.WideShapes Go.Deep Go.Joins
section
variable {H : Type} {enc : TypeId × Value → H} {w : World} {base : Nat} {spare : Nat → Bool} {held : Bool}
theorem opens_conv {P : Program} {t : TypeId} {α β : Type} {en : α → List AV} {en2 : β → List AV} {R : α → Prop} {R2 : β → Prop} (f : α → β) (h : Opens enc P w base spare held t en R) (he : ∀ a, en2 (f a) = en a) (hR : ∀ a, R a → R2 (f a)) : Opens enc P w base spare held t en2 R2 := by
  intro fuel cs x hx hs
  obtain ⟨a, ha, hc⟩ := h fuel cs x hx hs
  exact ⟨f a, hR a ha, by rw [he]; exact hc⟩
theorem opens_str2 {P : Program} {t : TypeId} (ht : P.underlying t = some .string) : Opens enc P w base spare held t (fun s : ByteArray => [.c (.string s)]) (fun s => s.size ≤ 140737488355328) := by
  intro fuel cs x h hsz
  obtain ⟨s, rfl, rfl, -⟩ := DataW.trod_string ht h
  refine ⟨s, ?_, cells_one1 (.c _) rfl (.c _)⟩
  have h1 : s.data.toList.length ≤ 140737488355328 := Nat.le_trans (hsz s.data.toList.length (List.mem_singleton.2 rfl)) (by decide)
  rw [Array.length_toList] at h1
  exact h1
abbrev I64F (p : Fact) : Prop := (Lit.int .i64 p.1).wf = true ∧ (Lit.int .i64 p.2).wf = true
abbrev FactsR (l : List Fact) : Prop := l.length * 16 ≤ 140737488355328 ∧ ∀ p ∈ l, I64F p
abbrev EffR (e : GEffect) : Prop := FactsR e.When
abbrev OpR (o : GOp) : Prop := o.Name.size ≤ 140737488355328 ∧ FactsR o.Pre ∧ o.Effs.length * 40 ≤ 140737488355328 ∧ ∀ e ∈ o.Effs, EffR e
abbrev IntsR (l : List Int) : Prop := l.length * 8 ≤ 140737488355328 ∧ ∀ z ∈ l, (Lit.int .i64 z).wf = true
abbrev TaskR (t : GTask) : Prop := IntsR t.Vars ∧ IntsR t.Init ∧ FactsR t.Goal ∧ t.Ops.length * 72 ≤ 140737488355328 ∧ ∀ o ∈ t.Ops, OpR o
set_option maxRecDepth 100000 in
theorem oFact : Opens enc Tryz.prog w base spare held 63 cF I64F :=
  opens_struct Tryz.underlying63 (opensF_cons (off' := 1) rfl (by kernel_rfl) (opens_int Tryz.underlying3) (opensF_last rfl (by kernel_rfl) (opens_int Tryz.underlying3)))
set_option maxRecDepth 100000 in
theorem oFacts : Opens enc Tryz.prog w base spare held 23 (fun l : List Fact => [.sl 2 (l.map cF)]) FactsR :=
  opens_slice Tryz.underlying23 (by kernel_rfl) (by kernel_rfl) (by decide) (by decide) oFact
set_option maxRecDepth 100000 in
theorem oInts : Opens enc Tryz.prog w base spare held 22 (fun l : List Int => [.sl 1 (l.map cI)]) IntsR :=
  opens_slice Tryz.underlying22 (by kernel_rfl) (by kernel_rfl) (by decide) (by decide) (opens_int Tryz.underlying3)
set_option maxRecDepth 100000 in
theorem oEff : Opens enc Tryz.prog w base spare held 61 cGEffect EffR :=
  opens_conv (fun p : List Fact × (Int × Int) => { When := p.1, Var := p.2.1, Val := p.2.2 : GEffect })
    (opens_struct Tryz.underlying61 (opensF_cons (off' := 1) (en := fun l : List Fact => [AV.sl 2 (l.map cF)]) (R := FactsR) (en' := fun z : Int × Int => [AV.c (.int .i64 z.1)] ++ [AV.c (.int .i64 z.2)]) (R' := fun z : Int × Int => (Lit.int .i64 z.1).wf = true ∧ (Lit.int .i64 z.2).wf = true) rfl (by kernel_rfl) oFacts
      (opensF_cons (off' := 2) (en := fun z : Int => [AV.c (.int .i64 z)]) (R := fun z : Int => (Lit.int .i64 z).wf = true) (en' := fun z : Int => [AV.c (.int .i64 z)]) (R' := fun z : Int => (Lit.int .i64 z).wf = true) rfl (by kernel_rfl) (opens_int Tryz.underlying3) (opensF_last rfl (by kernel_rfl) (opens_int Tryz.underlying3)))))
    (fun _ => rfl) (fun _ h => h.1)
set_option maxRecDepth 100000 in
theorem oOp : Opens enc Tryz.prog w base spare held 59 cGOp OpR :=
  opens_conv (fun p : ByteArray × (Int × (List Fact × List GEffect)) => { Name := p.1, Cost := p.2.1, Pre := p.2.2.1, Effs := p.2.2.2 : GOp })
    (opens_struct Tryz.underlying59 (opensF_cons (off' := 1) (en := fun s : ByteArray => [AV.c (.string s)]) (R := fun s => s.size ≤ 140737488355328) (en' := fun p : Int × (List Fact × List GEffect) => [AV.c (.int .i64 p.1)] ++ ([AV.sl 2 (p.2.1.map cF)] ++ [AV.sl 3 (p.2.2.map cGEffect)])) (R' := fun p : Int × (List Fact × List GEffect) => (Lit.int .i64 p.1).wf = true ∧ (FactsR p.2.1 ∧ (p.2.2.length * 40 ≤ 140737488355328 ∧ ∀ e ∈ p.2.2, EffR e))) rfl (by kernel_rfl) (opens_str2 Tryz.underlying9)
      (opensF_cons (off' := 2) (en := fun z : Int => [AV.c (.int .i64 z)]) (R := fun z : Int => (Lit.int .i64 z).wf = true) (en' := fun p : List Fact × List GEffect => [AV.sl 2 (p.1.map cF)] ++ [AV.sl 3 (p.2.map cGEffect)]) (R' := fun p : List Fact × List GEffect => FactsR p.1 ∧ (p.2.length * 40 ≤ 140737488355328 ∧ ∀ e ∈ p.2, EffR e)) rfl (by kernel_rfl) (opens_int Tryz.underlying3)
        (opensF_cons (off' := 3) (en := fun l : List Fact => [AV.sl 2 (l.map cF)]) (R := FactsR) (en' := fun l : List GEffect => [AV.sl 3 (l.map cGEffect)]) (R' := fun l : List GEffect => l.length * 40 ≤ 140737488355328 ∧ ∀ e ∈ l, EffR e) rfl (by kernel_rfl) oFacts
          (opensF_last rfl (by kernel_rfl) (opens_slice Tryz.underlying57 (by kernel_rfl) (by kernel_rfl) (by decide) (by decide) oEff))))))
    (fun _ => rfl) (fun _ h => ⟨h.1, h.2.2.1, h.2.2.2⟩)
set_option maxRecDepth 100000 in
theorem oTask : Opens enc Tryz.prog w base spare held 26 cGTask TaskR :=
  opens_conv (fun p : List Int × (List Int × (List Fact × List GOp)) => { Vars := p.1, Init := p.2.1, Goal := p.2.2.1, Ops := p.2.2.2 : GTask })
    (opens_struct Tryz.underlying26 (opensF_cons (off' := 1) (en := fun l : List Int => [AV.sl 1 (l.map cI)]) (R := IntsR) (en' := fun p : List Int × (List Fact × List GOp) => [AV.sl 1 (p.1.map cI)] ++ ([AV.sl 2 (p.2.1.map cF)] ++ [AV.sl 4 (p.2.2.map cGOp)])) (R' := fun p : List Int × (List Fact × List GOp) => IntsR p.1 ∧ (FactsR p.2.1 ∧ (p.2.2.length * 72 ≤ 140737488355328 ∧ ∀ o ∈ p.2.2, OpR o))) rfl (by kernel_rfl) oInts
      (opensF_cons (off' := 2) (en := fun l : List Int => [AV.sl 1 (l.map cI)]) (R := IntsR) (en' := fun p : List Fact × List GOp => [AV.sl 2 (p.1.map cF)] ++ [AV.sl 4 (p.2.map cGOp)]) (R' := fun p : List Fact × List GOp => FactsR p.1 ∧ (p.2.length * 72 ≤ 140737488355328 ∧ ∀ o ∈ p.2, OpR o)) rfl (by kernel_rfl) oInts
        (opensF_cons (off' := 3) (en := fun l : List Fact => [AV.sl 2 (l.map cF)]) (R := FactsR) (en' := fun l : List GOp => [AV.sl 4 (l.map cGOp)]) (R' := fun l : List GOp => l.length * 72 ≤ 140737488355328 ∧ ∀ o ∈ l, OpR o) rfl (by kernel_rfl) oFacts
          (opensF_last rfl (by kernel_rfl) (opens_slice Tryz.underlying24 (by kernel_rfl) (by kernel_rfl) (by decide) (by decide) oOp))))))
    (fun _ => rfl) (fun _ h => h)
theorem arg_struct {P : Program} {t : TypeId} {fs : Array Field} {α : Type} {en : α → List AV} {R : α → Prop} {r : Reach} {b0 : Nat} {v : Value} {d : DataW H} {p : List MemPlace} (ht : P.underlying t = some (.struct fs)) (hv : Value.okWide P w r b0 t v) (ho : Opens enc P w base spare held t en R) (h : DataW.Trod enc P w base spare held t v d p) (hs : Sized P t d) :
    ∃ a, R a ∧ RV w nov mZ (.agg (en a)) v := by
  obtain ⟨cs, rfl, hsz⟩ := okWide_struct ht hv
  obtain ⟨fuel, hf⟩ := h
  obtain ⟨a, ha, hc⟩ := ho fuel _ _ hf hs
  exact ⟨a, ha, agg_rv hc⟩
end
theorem TaskR.sh {t : GTask} (h : TaskR t) : ShT t := by
  obtain ⟨⟨h1, -⟩, ⟨h2, -⟩, ⟨h3, -⟩, h4, h5⟩ := h
  refine ⟨?_, ?_, ?_, ?_, fun o ho => ?_⟩
  · show _ ≤ _; omega
  · show _ ≤ _; omega
  · show _ ≤ _; omega
  · show _ ≤ _; omega
  · obtain ⟨g1, ⟨g2, -⟩, g3, g4⟩ := h5 o ho
    refine ⟨by omega, ?_, ?_, fun e he => ?_⟩
    · show _ ≤ _; omega
    · show _ ≤ _; omega
    · have := (g4 e he).1
      show _ ≤ _; omega
theorem FactsR.sh {l : List Fact} (h : FactsR l) : Sh l := by have := h.1; show _ ≤ _; omega
theorem law_of {f : FuncId} {args : List AV} {w : World} {cargs : Array Value} (h : ACall cx f args (.c (.bool true))) (hs : cargs.size = args.length) (hr : ∀ (j : Nat) (x : AV) (v : Value), args[j]? = some x → cargs[j]? = some v → RV w nov (mO (fun _ => False)) x v) :
    Calls Tryz.prog f cargs w fun e w' => e = .returned (.bool true) ∧ Below w.heap.size w w' := by
  refine Calls.mono (h.2 w (fun _ => False) cargs trivial (Nat.zero_le _) (fun b hb => hb.elim) hs hr) ?_
  rintro e w' ⟨v, rfl, h1, h2, _⟩
  rw [rv_c h1]
  exact ⟨rfl, ⟨h2.os, h2.tape, h2.output, h2.size, fun b hb => h2.block b hb (fun h => h)⟩⟩
end Go.Proofs.YtcpajbglcgbolaaGreat.Am
namespace Go.Proofs.YtcpajbglcgbolaaGreat.Am
open Go.RowKit Go.ChangeShapes Go.WideShapes Go.Deep Go.Joins
section
variable {H : Type} {enc : TypeId × Value → H} {w : World} {base : Nat} {spare : Nat → Bool} {held : Bool}
abbrev NogR (x : Nogood) : Prop := FactsR x.1 ∧ (Lit.int .i64 x.2).wf = true
abbrev CertR (c : GCertificate) : Prop := c.Nogoods.length * 32 ≤ 140737488355328 ∧ ∀ x ∈ c.Nogoods, NogR x
set_option maxRecDepth 100000 in
theorem oNogood : Opens enc Tryz.prog w base spare held 51 cN NogR :=
  opens_struct Tryz.underlying51 (opensF_cons (off' := 1) (en := fun l : List Fact => [AV.sl 2 (l.map cF)]) (R := FactsR) (en' := fun z : Int => [AV.c (.int .i64 z)]) (R' := fun z : Int => (Lit.int .i64 z).wf = true) rfl (by kernel_rfl) oFacts (opensF_last rfl (by kernel_rfl) (opens_int Tryz.underlying3)))
set_option maxRecDepth 100000 in
theorem oNogoods : Opens enc Tryz.prog w base spare held 27 (fun l : List Nogood => [.sl 2 (l.map cN)]) (fun l => l.length * 32 ≤ 140737488355328 ∧ ∀ x ∈ l, NogR x) :=
  opens_slice Tryz.underlying27 (by kernel_rfl) (by kernel_rfl) (by decide) (by decide) oNogood
set_option maxRecDepth 100000 in
theorem oCert : Opens enc Tryz.prog w base spare held 29 cGCertificate CertR :=
  opens_conv (fun p : Int × List Nogood => { Bound := p.1, Nogoods := p.2 : GCertificate })
    (opens_struct Tryz.underlying29 (opensF_cons (off' := 1) (en := fun z : Int => [AV.c (.int .i64 z)]) (R := fun z : Int => (Lit.int .i64 z).wf = true) (en' := fun l : List Nogood => [AV.sl 2 (l.map cN)]) (R' := fun l : List Nogood => l.length * 32 ≤ 140737488355328 ∧ ∀ x ∈ l, NogR x) rfl (by kernel_rfl) (opens_int Tryz.underlying3) (opensF_last rfl (by kernel_rfl) oNogoods)))
    (fun _ => rfl) (fun _ h => h.2)
end
theorem CertR.sh {c : GCertificate} (h : CertR c) : ShC c := by
  refine ⟨?_, fun n hn => ?_⟩
  · have := h.1; show _ ≤ _; omega
  · have := (h.2 n hn).1.1; show _ ≤ _; omega
end Go.Proofs.YtcpajbglcgbolaaGreat.Am
namespace Go.Proofs.YtcpajbglcgbolaaGreat.rowOrders
open Go.ChangeShapes Go.WideShapes Go.ChangeAt Go.RowKit Am
theorem laidOut : laidOutB Tryz.prog = true := by kernel_rfl
set_option maxRecDepth 100000 in
theorem contract (H : Type) (enc : TypeId × Value → H) (W : World) (base : Nat) (args : Array Value) (ds gs : List (DataW H)) (before : List MemPlace)
    (hval : ∀ (j : Nat) t v, Tryz.f9.params[j]? = some t → args[j]? = some v → Value.okWide Tryz.prog W .any base t v)
    (hW : DataW.Whole enc Tryz.prog Tryz.f9.params.toList Rows.checkerOrdersSpec.vars false W args.toList ds gs before)
    (hsz : (DataW.weightsEach Tryz.prog (Tryz.f9.params.toList ++ (OpenSpec.ofChange Rows.checkerOrdersSpec).bare.plain.varTypes Tryz.prog) (ds ++ gs)).all (· ≤ reachBytes) = true) :
    Calls Tryz.prog 9 args W fun e W' => ∃ v, e = .returned v ∧ Rows.checkerOrdersSpec.post enc Tryz.prog Tryz.f9 false true false false W args v W' := by
  have hW' := hW
  obtain ⟨p, q, hA0, hV, rfl, hfz, hnd⟩ := hW
  have hA : DataW.TrodAll enc Tryz.prog W 0 (fun _ => true) true Tryz.f9.params.toList args.toList ds p := hA0
  rw [Tryz.params9] at hA hval
  obtain ⟨v0, vs0, d0, ds0, p0, q0, hargs, rfl, rfl, h0, r0⟩ := trodAll_cons hA
  obtain ⟨v1, vs1, d1, ds1, p1, q1, rfl, rfl, rfl, h1, r1⟩ := trodAll_cons r0
  obtain ⟨rfl, rfl, rfl⟩ := trodAll_nil r1
  obtain rfl : args = #[v0, v1] := Array.ext' hargs
  obtain ⟨rfl, rfl⟩ := trodVars_none hV
  simp only [List.append_nil] at hW' hA0 hsz
  rw [Tryz.params9] at hsz
  obtain ⟨t, ht, k0⟩ := arg_struct Tryz.underlying26 (hval 0 26 v0 rfl rfl) oTask h0 (sized_arg hsz (j := 0) rfl rfl)
  obtain ⟨c, hc, k1⟩ := arg_struct Tryz.underlying29 (hval 1 29 v1 rfl rfl) oCert h1 (sized_arg hsz (j := 1) rfl rfl)
  refine (law_of (A_l31_CheckerOrders 100 t c (orders_true 100 (by decide) t ht.sh c hc.sh)) rfl (fun j x v hx hv => ?_)).mono fun e W' ⟨he, hb⟩ => ?_
  · match j, hx, hv with
    | 0, hx, hv => simp at hx hv; subst hx hv; exact k0
    | 1, hx, hv => simp at hx hv; subst hx hv; exact k1
    | j + 2, hx, hv => simp at hx
  · subst he
    exact ⟨_, rfl, law_post laidOut rfl (by kernel_rfl) Tryz.underlying4 (by kernel_rfl) hW' hA0 rfl rfl rfl hb⟩
theorem own : ownKnob Tryz.prog.godebug = none := by kernel_rfl
theorem laid_met (os : Os) : laidMet Tryz.prog Rows.checkerOrdersRow.laid ((World.holding Tryz.prog os ⟨#[], #[], []⟩).forCall (fun _ _ => 0) ⟨#[], #[.agg #[.slice none 0 0, .slice none 0 0, .slice none 0 0, .slice none 0 0], .agg #[.int .i64 0, .slice none 0 0]], []⟩).memory :=
  laidMet_of_run' 8 (by kernel_rfl) (by kernel_rfl)
theorem reads (os : Os) {H : Type} (enc : TypeId × Value → H) : ∃ places, DataW.whole enc Tryz.prog ((World.holding Tryz.prog os ⟨#[], #[], []⟩).forCall (fun _ _ => 0) ⟨#[], #[.agg #[.slice none 0 0, .slice none 0 0, .slice none 0 0, .slice none 0 0], .agg #[.int .i64 0, .slice none 0 0]], []⟩).memory Tryz.f9.params.toList Rows.checkerOrdersSpec.vars false (#[.agg #[.slice none 0 0, .slice none 0 0, .slice none 0 0, .slice none 0 0], .agg #[.int .i64 0, .slice none 0 0]] : Array Value).toList 8 = some ([.agg [.nil, .nil, .nil, .nil], .agg [.lit (.int .i64 0), .nil]], [], places) :=
  ⟨[], by kernel_rfl⟩

set_option maxRecDepth 100000 in
theorem lifted (os : Os) (started : os.Started) (H : Type) (enc : TypeId × Value → H) (F : Stop.Interp) :
    ReturnsInHanded {} Tryz.checked os 9 .any ((OpenSpec.ofChange Rows.checkerOrdersSpec).preRow enc Tryz.prog Tryz.f9 Rows.checkerOrdersRow.domain false Rows.checkerOrdersRow.laid) (((OpenSpec.ofChange Rows.checkerOrdersSpec).at F).post enc Tryz.prog Tryz.f9 false true false false) := by
  obtain ⟨places, hx⟩ := reads os enc
  refine returnsInHanded_of_row (C := Tryz.checked) (s := OpenSpec.ofChange Rows.checkerOrdersSpec) own started (by kernel_rfl) Tryz.func9
    (witness_row_at (enc := enc) (C := Tryz.checked) false (World.holding Tryz.prog os ⟨#[], #[], []⟩) #[.agg #[.slice none 0 0, .slice none 0 0, .slice none 0 0, .slice none 0 0], .agg #[.int .i64 0, .slice none 0 0]] rfl (by kernel_rfl) (by kernel_rfl) (by kernel_rfl)
      (OpenSpec.preRow_of_cond 8 hx (by kernel_rfl) (fun k hk => by cases hk) (by kernel_rfl) (laid_met os))) ?_
  intro W base args ds gs before hval hW _ _ hsz _ _ _
  exact contract H enc W base args ds gs before hval hW hsz

theorem said : Rows.CheckerOrdersSaid :=
  OpenClaim.holds_of_cond 9 Tryz.f9 rfl rfl rfl rfl rfl rfl rfl ⟨rfl, rfl, rfl, rfl, rfl⟩ rfl rfl rfl rfl rfl (by kernel_rfl) Tryz.func9 (by kernel_rfl)
    (of_decide_eq_true (by kernel_rfl)) (by unfold Func.isWrapper; first | (rw [if_pos (by decide +kernel)]; kernel_rfl) | (rw [if_neg (by decide +kernel)]; exact ⟨rfl, rfl⟩))
    (fun os started H enc _ F => by rw [OpenClaim.pre_eq_preRow]; exact lifted os started H enc F)
end Go.Proofs.YtcpajbglcgbolaaGreat.rowOrders
