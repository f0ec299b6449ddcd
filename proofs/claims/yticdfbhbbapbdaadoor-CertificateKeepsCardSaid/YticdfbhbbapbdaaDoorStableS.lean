/- slices.stableCmpFunc, slices.SortStableFunc over nogoods. -/
import Derived.Test.YticdfbhbbapbdaaDoorSymGen
namespace Go.Proofs.YticdfbhbbapbdaaDoor
open Go.RowKit

theorem sym_calls (o : Ord ltI) (g cap N : Nat) (hN : N ≤ 100000) : ∀ (d a m b : Nat) (f : Nat → Item) (w : World), b - a ≤ d → a < m → m < b → b ≤ N → RowI w g cap N f → GoodI w g N f → SortedOn ltI f a m → SortedOn ltI f m b →
    Calls Tryd.prog 76 (symArgs g cap N a m b) w fun e w' => e = .returned (.tuple #[]) ∧ Sorted w w' g cap N a b f
  | 0, a, m, b, f, w, hd, ham, hmb, _, _, _, _, _ => by omega
  | d + 1, a, m, b, f, w, hd, ham, hmb, hb, hr, hg, h1, h2 => by
    by_cases e1 : m = a + 1
    · subst e1
      have := sym_left o g cap N a b f w hr hg hmb hb hN h2
      rw [show (a : Int) + 1 = ((a + 1 : Nat) : Int) by omega] at this
      exact this
    · by_cases e2 : b = m + 1
      · subst e2
        have := sym_right o g cap N a m f w hr hg (by omega) hb hN h1
        rw [show (m : Int) + 1 = ((m + 1 : Nat) : Int) by omega] at this
        exact this
      · have ih : ∀ (a' m' b' : Nat) (f' : Nat → Item) (w' : World), b' - a' < b - a → a' < m' → m' < b' → b' ≤ N → RowI w' g cap N f' → GoodI w' g N f' → SortedOn ltI f' a' m' → SortedOn ltI f' m' b' → Calls Tryd.prog 76 (symArgs g cap N a' m' b') w' fun e w'' => e = .returned (.tuple #[]) ∧ Sorted w' w'' g cap N a' b' f' :=
          fun a' m' b' f' w' hlt => sym_calls o g cap N hN d a' m' b' f' w' (by omega)
        by_cases hmm : (a + b) / 2 < m
        · exact sym_gen1 o g cap N a m b f w hr hg (by omega) (by omega) hb hN h1 h2 hmm ih
        · exact sym_gen2 o g cap N a m b f w hr hg (by omega) (by omega) hb hN h1 h2 hmm ih

/-- blocks of a size are in order, from a place on -/
def Blk (f : Nat → Item) (N bs lo : Nat) : Prop := ∀ u x, x = u * bs → lo ≤ x → x < N → SortedOn ltI f x (min (x + bs) N)
theorem mult_gap {u v c : Nat} (h : u * c < v * c) : u * c + c ≤ v * c := by
  have h1 : u < v := Nat.lt_of_mul_lt_mul_right h
  have h2 := Nat.mul_le_mul_right c (show u + 1 ≤ v from h1)
  rwa [Nat.add_mul, Nat.one_mul] at h2
theorem blk_merge {f f' : Nat → Item} {N bs v : Nat} (hb0 : 0 < bs) (h : Blk f N bs (v * (2 * bs))) (hw : Within (v * (2 * bs)) (v * (2 * bs) + 2 * bs) f f') : Blk f' N bs ((v + 1) * (2 * bs)) := by
  intro u x hx hlo hxN
  have e : (v + 1) * (2 * bs) = v * (2 * bs) + 2 * bs := by rw [Nat.add_mul, Nat.one_mul]
  exact (h u x hx (by omega) hxN).off hw (.inr (by omega))
/-- finished blocks of twice the size, below a place -/
def Fin2 (f : Nat → Item) (c hi : Nat) : Prop := ∀ u x, x = u * c → x + c ≤ hi → SortedOn ltI f x (x + c)
theorem fin_step {f f' : Nat → Item} {c v : Nat} (h : Fin2 f c (v * c)) (hw : Within (v * c) (v * c + c) f f') (hs : SortedOn ltI f' (v * c) (v * c + c)) : Fin2 f' c ((v + 1) * c) := by
  intro u x hx hhi
  have e : (v + 1) * c = v * c + c := by rw [Nat.add_mul, Nat.one_mul]
  by_cases hlt : x + c ≤ v * c
  · exact (h u x hx hlt).off hw (.inl hlt)
  · by_cases hc : c = 0
    · subst hc
      exact SortedOn.small (by omega)
    · subst hx
      have huv : ¬ u * c < v * c := fun h1 => hlt (mult_gap h1)
      have hvu : ¬ v * c < u * c := fun h1 => by have := mult_gap h1; omega
      have e2 : u * c = v * c := by omega
      rw [e2]
      exact hs
theorem blk_done {f : Nat → Item} {N c v : Nat} (h : Fin2 f c (v * c)) (hs : v * c < N → SortedOn ltI f (v * c) N) (hN : N < v * c + c) : Blk f N c 0 := by
  intro u x hx _ hxN
  by_cases hlt : x + c ≤ v * c
  · exact (h u x hx hlt).sub (Nat.le_refl _) (Nat.min_le_left _ _)
  · subst hx
    have huv : ¬ u * c < v * c := fun h1 => hlt (mult_gap h1)
    have hvu : ¬ v * c < u * c := fun h1 => by have := mult_gap h1; omega
    have e2 : u * c = v * c := by omega
    rw [e2] at hxN ⊢
    exact (hs hxN).sub (Nat.le_refl _) (Nat.min_le_right _ _)

set_option maxHeartbeats 4000000 in
set_option maxRecDepth 100000 in
theorem stable_calls (o : Ord ltI) (g cap N : Nat) (f : Nat → Item) (w : World) (h : RowI w g cap N f) (hgd : GoodI w g N f) (hN : N ≤ 100000) :
    Calls Tryd.prog 62 #[.slice (some ⟨g, 0, none⟩) N cap, .int .i64 N, cmpV] w fun e w' => e = .returned (.tuple #[]) ∧ Sorted w w' g cap N 0 N f := by
  have HR := Lib.hid h
  have HGD := Lib.hid hgd
  have HO := Lib.hid o
  clear h hgd o
  unfold cmpV
  go_enter Tryd.func62, Tryd.ntmps62
  go_wp2
  go_loopg [7, 8] N (fun gh av bv wr => ∃ (t : Nat) (f' : Nat → Item), 20 * t ≤ N ∧ gh = N - 20 * t ∧ av = .int .i64 ((20 * t : Nat) : Int) ∧ bv = .int .i64 ((20 * t + 20 : Nat) : Int) ∧ RowI wr g cap N f' ∧ PermF N f f' ∧ Within 0 N f f' ∧ w.grownBy wr (some g) ∧ ∀ u, u < t → SortedOn ltI f' (20 * u) (20 * u + 20))
  case atStart => exact ⟨0, f, by omega, by omega, by go_num, by go_num, HR.out, PermF.refl _ _, Within.refl _ _ _, World.grownBy.refl _ _, fun u hu => by omega⟩
  case round =>
    obtain ⟨t, f', ht, hg, rfl, rfl, hr, hp, hwi, hgr, hbl⟩ := hrel
    have hgd1 := HGD.out.keep HR.out hr hgr hwi (Nat.le_refl _)
    by_cases hlt : 20 * t + 20 ≤ N
    · have hins := insertion_calls HO.out g cap N (20 * t) (20 * t + 20) f' wr hr hgd1 (by omega) hlt hN
      unfold cmpV at hins
      have hle : ((20 * t + 20 : Nat) : Int) ≤ N := by omega
      have e1 : ((20 * t + 20 : Nat) : Int) + 20 = ((20 * (t + 1) + 20 : Nat) : Int) := by omega
      have e2 : ((20 * t + 20 : Nat) : Int) = ((20 * (t + 1) : Nat) : Int) := by omega
      obtain ⟨A, hA⟩ : ∃ A : Nat, A = 20 * t := ⟨_, rfl⟩
      obtain ⟨B, hB⟩ : ∃ B : Nat, B = 20 * t + 20 := ⟨_, rfl⟩
      rw [← hB] at e1 e2 hle hins ⊢
      rw [← hA] at hins ⊢
      have hbN : B ≤ 100000 := by omega
      have hbN2 : B ≤ N := by omega
      have HG := Lib.hid hg
      have HRR := Lib.hid hr
      have HP := Lib.hid hp
      have HWI := Lib.hid hwi
      have HGR := Lib.hid hgr
      have HBL := Lib.hid hbl
      have HGD1 := Lib.hid hgd1
      have HINS := Lib.hid hins
      have E1 := Lib.hid e1
      have E2 := Lib.hid e2
      have HA := Lib.hid hA
      have HB := Lib.hid hB
      clear hg hr hp hwi hgr hbl hgd1 hins e1 e2 hA hB
      go_wp2_with (go_at_call 75; refine HINS.out.mono ?_; rintro e w1 ⟨rfl, f1, s1, s2, s3, s4, s5⟩)
      go_roundg (N - 20 * (t + 1))
      case measure => have := HG.out; omega
      case rel =>
        have hA := HA.out
        have hB := HB.out
        subst hA hB
        refine ⟨t + 1, f1, by omega, rfl, by rw [E2.out], by rw [← E1.out], s1, PermF.trans HP.out s2, Within.trans HWI.out (s3.mono (Nat.zero_le _) (by omega)), World.grownBy.trans HGR.out s5, fun u hu => ?_⟩
        by_cases hut : u = t
        · subst hut; exact s4
        · exact (HBL.out u (by omega)).off s3 (.inl (by omega))
    · have hins := insertion_calls HO.out g cap N (20 * t) N f' wr hr hgd1 ht (Nat.le_refl _) hN
      unfold cmpV at hins
      have hle : ¬ ((20 * t + 20 : Nat) : Int) ≤ N := by omega
      obtain ⟨A, hA⟩ : ∃ A : Nat, A = 20 * t := ⟨_, rfl⟩
      obtain ⟨B, hB⟩ : ∃ B : Nat, B = 20 * t + 20 := ⟨_, rfl⟩
      rw [← hB] at hle ⊢
      rw [← hA] at hins ⊢
      have hbN2 : ¬ B ≤ N := by omega
      have HG := Lib.hid hg
      have HRR := Lib.hid hr
      have HP := Lib.hid hp
      have HWI := Lib.hid hwi
      have HGR := Lib.hid hgr
      have HBL := Lib.hid hbl
      have HGD1 := Lib.hid hgd1
      have HINS := Lib.hid hins
      have HA := Lib.hid hA
      have HB := Lib.hid hB
      clear hg hr hp hwi hgr hbl hgd1 hins hA hB
      go_wp2_with (go_at_call 75; refine HINS.out.mono ?_; rintro e w1 ⟨rfl, f1, s1, s2, s3, s4, s5⟩)
      have hblk : Blk f1 N 20 0 := by
        have hA := HA.out
        refine blk_done (v := t) (fun u x hx hhi => ?_) (fun _ => ?_) (by omega)
        · exact ((HBL.out u (by omega)).off s3 (.inl (by omega))) |> fun h => by rw [hx, show u * 20 = 20 * u by omega]; exact h
        · rw [show t * 20 = A by omega]; exact s4
      have hp1 := PermF.trans HP.out s2
      have hw1 := Within.trans HWI.out (s3.mono (Nat.zero_le _) (Nat.le_refl _))
      have hg1 := World.grownBy.trans HGR.out s5
      have S1 := Lib.hid s1
      have HBLK := Lib.hid hblk
      have HP1 := Lib.hid hp1
      have HW1 := Lib.hid hw1
      have HG1 := Lib.hid hg1
      clear s1 hblk hp1 hw1 hg1
      clear s2 s3 s4 s5 HBL HWI HGR HP HRR HGD1 HINS HG HA HB hbN2 hle
      go_loopg [6, 7, 8, 9] N (fun gh bsv av bv mv wr => ∃ (bs : Nat) (f' : Nat → Item), 20 ≤ bs ∧ bs ≤ 200000 ∧ gh = N - (bs - 20) ∧ bsv = .int .i64 bs ∧ RowI wr g cap N f' ∧ PermF N f f' ∧ Within 0 N f f' ∧ w.grownBy wr (some g) ∧ Blk f' N bs 0)
      case atStart => exact ⟨20, f1, by omega, by omega, by omega, by go_num, S1.out, HP1.out, HW1.out, HG1.out, HBLK.out⟩
      case round =>
        obtain ⟨bs, f2, hbs1, hbs2, hg, rfl, hr, hp, hwi, hgr, hbl⟩ := hrel
        clear S1 HP1 HW1 HG1 HBLK
        by_cases hlt2 : bs < N
        · obtain ⟨B2, hB2⟩ : ∃ B2, B2 = 2 * bs := ⟨_, rfl⟩
          have eB : (2 : Int) * bs = (B2 : Int) := by omega
          have eB' : (bs : Int) * 2 = (B2 : Int) := by omega
          have hB2a : 2 * bs ≤ B2 := by omega
          have hB2b : B2 ≤ 2 * bs := by omega
          have hblB : Blk f2 N bs (0 * B2) := by rw [Nat.zero_mul]; exact hbl
          have HG := Lib.hid hg
          have HRR := Lib.hid hr
          have HP := Lib.hid hp
          have HWI := Lib.hid hwi
          have HGR := Lib.hid hgr
          have HBL := Lib.hid hbl
          have HBLB := Lib.hid hblB
          have EB := Lib.hid eB
          have EB' := Lib.hid eB'
          have HB2 := Lib.hid hB2
          clear hg hr hp hwi hgr hbl hblB eB eB' hB2
          go_wp2_with fail
          rw [EB.out]
          go_loopg [7, 8] N (fun gh av bv wr => ∃ (v A : Nat) (f3 : Nat → Item), A = v * B2 ∧ A ≤ N ∧ gh = N - A ∧ av = .int .i64 A ∧ bv = .int .i64 ((A + B2 : Nat) : Int) ∧ RowI wr g cap N f3 ∧ PermF N f f3 ∧ Within 0 N f f3 ∧ w.grownBy wr (some g) ∧ Fin2 f3 B2 A ∧ Blk f3 N bs A)
          case atStart => exact ⟨0, 0, f2, by omega, by omega, by omega, by go_num, by rw [Nat.zero_add], HRR.out, HP.out, HWI.out, HGR.out, fun u x hx hh => by omega, HBL.out⟩
          case round =>
            obtain ⟨v, A, f3, hA, hAN, hgA, rfl, rfl, hr3, hp3, hw3, hgr3, hfi, hbl3⟩ := hrel
            have hgd3 := HGD.out.keep HR.out hr3 hgr3 hw3 (Nat.le_refl _)
            have hB2 := HB2.out
            have eA1 : A = (2 * v) * bs := by rw [hA, hB2, Nat.mul_comm 2 v, Nat.mul_assoc]
            have eA2 : A + bs = (2 * v + 1) * bs := by rw [Nat.add_mul, Nat.one_mul, ← eA1]
            clear HRR HP HWI HGR HBL HBLB
            have eAb : (A : Int) + bs = ((A + bs : Nat) : Int) := by omega
            by_cases hin : A + B2 ≤ N
            · have s1 : SortedOn ltI f3 A (A + bs) := by have := hbl3 (2 * v) A eA1 (Nat.le_refl _) (by omega); rwa [show min (A + bs) N = A + bs by omega] at this
              have s2 : SortedOn ltI f3 (A + bs) (A + B2) := by have := hbl3 (2 * v + 1) (A + bs) eA2 (by omega) (by omega); rwa [show min (A + bs + bs) N = A + B2 by omega] at this
              have hsy := sym_calls HO.out g cap N hN N A (A + bs) (A + B2) f3 wr (by omega) (by omega) (by omega) hin hr3 hgd3 s1 s2
              unfold symArgs cmpV at hsy
              have hinI : ((A + B2 : Nat) : Int) ≤ N := by omega
              have eN : ((A + B2 : Nat) : Int) + B2 = ((A + B2 + B2 : Nat) : Int) := by omega
              obtain ⟨BB, hBB⟩ : ∃ BB : Nat, BB = A + B2 := ⟨_, rfl⟩
              rw [← hBB] at hsy hinI eN hin ⊢
              have hBB1 : BB ≤ A + B2 := by omega
              have hBB2 : A + B2 ≤ BB := by omega
              have HGA := Lib.hid hgA
              have HR3 := Lib.hid hr3
              have HP3 := Lib.hid hp3
              have HW3 := Lib.hid hw3
              have HGR3 := Lib.hid hgr3
              have HFI := Lib.hid hfi
              have HBL3 := Lib.hid hbl3
              have HGD3 := Lib.hid hgd3
              have HA := Lib.hid hA
              have HB2' := Lib.hid hB2
              have EA1 := Lib.hid eA1
              have EA2 := Lib.hid eA2
              have EAB := Lib.hid eAb
              have SS1 := Lib.hid s1
              have SS2 := Lib.hid s2
              have HSY := Lib.hid hsy
              have EN := Lib.hid eN
              have HBB := Lib.hid hBB
              clear hgA hr3 hp3 hw3 hgr3 hfi hbl3 hgd3 hA hB2 eA1 eA2 eAb s1 s2 hsy eN hBB
              go_wp2_with (first
                | (go_at_call 76; rw [EAB.out]; refine HSY.out.mono ?_; rintro e w1 ⟨rfl, f4, z1, z2, z3, z4, z5⟩))
              go_roundg (N - BB)
              case measure => have := HGA.out; omega
              case rel =>
                have hA := HA.out
                have hBB := HBB.out
                have hB2 := HB2'.out
                have e1 : (v + 1) * B2 = BB := by rw [Nat.add_mul, Nat.one_mul, ← hA]; omega
                have hw' : Within (v * B2) (v * B2 + B2) f3 f4 := by rw [← hA, ← hBB]; exact z3
                have hfi' : Fin2 f4 B2 BB := by rw [← e1]; exact fin_step (by rw [← hA]; exact HFI.out) hw' (by rw [← hA, ← hBB]; exact z4)
                have hbl' : Blk f4 N bs BB := by
                  rw [← e1, hB2]
                  exact blk_merge (by omega) (by rw [← hB2, ← hA]; exact HBL3.out) (by rw [← hB2]; exact hw')
                refine ⟨v + 1, BB, f4, e1.symm, hin, rfl, rfl, ?_, z1, PermF.trans HP3.out z2, Within.trans HW3.out (z3.mono (Nat.zero_le _) hin), World.grownBy.trans HGR3.out z5, hfi', hbl'⟩
                rw [← show ((BB : Int)) + B2 = ((BB + B2 : Nat) : Int) by omega, EB.out]
            · have hinI : ¬ ((A + B2 : Nat) : Int) ≤ N := by omega
              have hinN : N < A + B2 := by omega
              obtain ⟨BB, hBB⟩ : ∃ BB : Nat, BB = A + B2 := ⟨_, rfl⟩
              rw [← hBB] at hinI ⊢
              have hinB : ¬ BB ≤ N := by omega
              by_cases hm : A + bs < N
              · have s1 : SortedOn ltI f3 A (A + bs) := by have := hbl3 (2 * v) A eA1 (Nat.le_refl _) (by omega); rwa [show min (A + bs) N = A + bs by omega] at this
                have s2 : SortedOn ltI f3 (A + bs) N := by have := hbl3 (2 * v + 1) (A + bs) eA2 (by omega) (by omega); rwa [show min (A + bs + bs) N = N by omega] at this
                have hsy := sym_calls HO.out g cap N hN N A (A + bs) N f3 wr (by omega) (by omega) hm (Nat.le_refl _) hr3 hgd3 s1 s2
                unfold symArgs cmpV at hsy
                have hmI : (A : Int) + bs < N := by omega
                have HGA := Lib.hid hgA
                have HR3 := Lib.hid hr3
                have HP3 := Lib.hid hp3
                have HW3 := Lib.hid hw3
                have HGR3 := Lib.hid hgr3
                have HFI := Lib.hid hfi
                have HBL3 := Lib.hid hbl3
                have HGD3 := Lib.hid hgd3
                have HA := Lib.hid hA
                have HB2' := Lib.hid hB2
                have EA1 := Lib.hid eA1
                have EA2 := Lib.hid eA2
                have EAB := Lib.hid eAb
                have SS1 := Lib.hid s1
                have SS2 := Lib.hid s2
                have HSY := Lib.hid hsy
                have HBB := Lib.hid hBB
                clear hgA hr3 hp3 hw3 hgr3 hfi hbl3 hgd3 hA hB2 eA1 eA2 eAb s1 s2 hsy hBB
                go_wp2_with (first
                  | (go_at_call 76; rw [EAB.out]; refine HSY.out.mono ?_; rintro e w1 ⟨rfl, f4, z1, z2, z3, z4, z5⟩))
                go_roundg (N - (B2 - 20))
                case measure => have := HG.out; omega
                case rel =>
                  have hA := HA.out
                  have hfi' : Fin2 f4 B2 (v * B2) := fun u x hx hh => (HFI.out u x hx (by rw [hA]; exact hh)).off z3 (.inl (by rw [hA]; exact hh))
                  refine ⟨B2, f4, by omega, by omega, rfl, ?_, z1, PermF.trans HP3.out z2, Within.trans HW3.out (z3.mono (Nat.zero_le _) (Nat.le_refl _)), World.grownBy.trans HGR3.out z5, blk_done hfi' (fun _ => by rw [← hA]; exact z4) (by rw [← hA]; exact hinN)⟩
                  first | rfl | (rw [EB'.out]) | go_num
              · have s1 : A < N → SortedOn ltI f3 A N := fun hAl => by have := hbl3 (2 * v) A eA1 (Nat.le_refl _) hAl; rwa [show min (A + bs) N = N by omega] at this
                have hmI : ¬ (A : Int) + bs < N := by omega
                have hfi' : Fin2 f3 B2 (v * B2) := by rw [← hA]; exact hfi
                have hblk := blk_done hfi' (fun h => by rw [← hA] at h ⊢; exact s1 h) (by rw [← hA]; exact hinN)
                have HGA := Lib.hid hgA
                have HR3 := Lib.hid hr3
                have HP3 := Lib.hid hp3
                have HW3 := Lib.hid hw3
                have HGR3 := Lib.hid hgr3
                have HFI := Lib.hid hfi
                have HBL3 := Lib.hid hbl3
                have HGD3 := Lib.hid hgd3
                have HA := Lib.hid hA
                have HB2' := Lib.hid hB2
                have EA1 := Lib.hid eA1
                have EA2 := Lib.hid eA2
                have EAB := Lib.hid eAb
                have SS1 := Lib.hid s1
                have HBB := Lib.hid hBB
                have HFI' := Lib.hid hfi'
                have HBLK := Lib.hid hblk
                clear hgA hr3 hp3 hw3 hgr3 hfi hbl3 hgd3 hA hB2 eA1 eA2 eAb s1 hBB hfi' hblk
                go_wp2_with fail
                go_roundg (N - (B2 - 20))
                case measure => have := HG.out; omega
                case rel =>
                  refine ⟨B2, f3, by omega, by omega, rfl, ?_, HR3.out, HP3.out, HW3.out, HGR3.out, HBLK.out⟩
                  first | rfl | (rw [EB'.out]) | go_num
        · have hfin : SortedOn ltI f2 0 N := by
            by_cases hN0 : N = 0
            · exact SortedOn.small (by omega)
            · have := hbl 0 0 (by omega) (by omega) (by omega)
              rwa [show min (0 + bs) N = N by omega] at this
          have HG := Lib.hid hg
          have HRR := Lib.hid hr
          have HP := Lib.hid hp
          have HWI := Lib.hid hwi
          have HGR := Lib.hid hgr
          have HBL := Lib.hid hbl
          have HFIN := Lib.hid hfin
          clear hg hr hp hwi hgr hbl hfin
          go_wp2_with fail
          go_end0
          exact ⟨rfl, f2, HRR.out, HP.out, HWI.out, HFIN.out, HGR.out⟩

theorem sortStable_calls (o : Ord ltI) (g cap N : Nat) (f : Nat → Item) (w : World) (h : RowI w g cap N f) (hgd : GoodI w g N f) (hN : N ≤ 100000) :
    Calls Tryd.prog 44 #[.slice (some ⟨g, 0, none⟩) N cap, cmpV] w fun e w' => e = .returned (.tuple #[]) ∧ Sorted w w' g cap N 0 N f := by
  have h1 := stable_calls o g cap N f w h hgd hN
  unfold cmpV at h1 ⊢
  have H1 := Lib.hid h1
  have HR := Lib.hid h
  have HGD := Lib.hid hgd
  have HO := Lib.hid o
  clear h1 h hgd o
  go_enter Tryd.func44, Tryd.ntmps44
  go_wp2_with (go_at_call 62; refine H1.out.mono ?_; rintro e w1 ⟨rfl, s1⟩)
  go_end0
  exact ⟨rfl, s1⟩

/-- the order of nogoods is an order -/
theorem cmpFact_lt {x y : Fact} : cmpFact x y < 0 ↔ x.1 < y.1 ∨ (x.1 = y.1 ∧ x.2 < y.2) := by
  unfold cmpFact
  by_cases h : cmpI x.1 y.1 = 0
  · rw [if_neg (by simpa using h), cmpI_lt]
    have := cmpI_zero.1 h
    omega
  · rw [if_pos h, cmpI_lt]
    have : x.1 ≠ y.1 := fun e => h (cmpI_zero.2 e)
    omega
theorem cmpFact_zero {x y : Fact} : cmpFact x y = 0 ↔ x = y := by
  unfold cmpFact
  by_cases h : cmpI x.1 y.1 = 0
  · rw [if_neg (by simpa using h), cmpI_zero]
    have := cmpI_zero.1 h
    exact ⟨fun e => Prod.ext this e, fun e => by rw [e]⟩
  · rw [if_pos h]
    exact ⟨fun e => absurd e h, fun e => absurd (cmpI_zero.2 (congrArg Prod.fst e)) h⟩
def LtL : List Fact → List Fact → Prop
  | [], [] => False
  | [], _ :: _ => True
  | _ :: _, [] => False
  | x :: r, y :: s => (x.1 < y.1 ∨ (x.1 = y.1 ∧ x.2 < y.2)) ∨ (x = y ∧ LtL r s)
theorem cmpL_lt : ∀ (a b : List Fact), cmpL a b < 0 ↔ LtL a b
  | [], [] => by simp [cmpL, LtL]
  | [], _ :: _ => by simp [cmpL, LtL]
  | _ :: _, [] => by simp [cmpL, LtL]
  | x :: r, y :: s => by
    rw [cmpL, LtL]
    by_cases h : cmpFact x y = 0
    · rw [if_neg (by simpa using h), cmpL_lt r s]
      have := cmpFact_zero.1 h
      subst this
      simp
    · rw [if_pos h, cmpFact_lt]
      have : x ≠ y := fun e => h (cmpFact_zero.2 e)
      simp [this]
theorem cmpL_zero : ∀ (a b : List Fact), cmpL a b = 0 ↔ a = b
  | [], [] => by simp [cmpL]
  | [], _ :: _ => by simp [cmpL]
  | _ :: _, [] => by simp [cmpL]
  | x :: r, y :: s => by
    rw [cmpL]
    by_cases h : cmpFact x y = 0
    · rw [if_neg (by simpa using h), cmpL_zero r s]
      have := cmpFact_zero.1 h
      subst this
      simp
    · rw [if_pos h]
      have : x ≠ y := fun e => h (cmpFact_zero.2 e)
      simp [h, this]
theorem LtL_trans : ∀ (a b c : List Fact), LtL a b → LtL b c → LtL a c
  | [], [], _, h, _ => by cases h
  | [], _ :: _, [], _, h => by cases h
  | [], _ :: _, _ :: _, _, _ => trivial
  | _ :: _, [], _, h, _ => by cases h
  | _ :: _, _ :: _, [], _, h => by cases h
  | x :: r, y :: s, z :: t, h1, h2 => by
    rw [LtL] at h1 h2 ⊢
    rcases h1 with h1 | ⟨rfl, h1⟩
    · rcases h2 with h2 | ⟨rfl, h2⟩
      · left; omega
      · left; exact h1
    · rcases h2 with h2 | ⟨rfl, h2⟩
      · left; exact h2
      · right; exact ⟨rfl, LtL_trans r s t h1 h2⟩
theorem LtL_tri : ∀ (a b : List Fact), LtL a b ∨ a = b ∨ LtL b a
  | [], [] => .inr (.inl rfl)
  | [], _ :: _ => .inl trivial
  | _ :: _, [] => .inr (.inr trivial)
  | x :: r, y :: s => by
    rw [LtL, LtL]
    by_cases h : x = y
    · subst h
      rcases LtL_tri r s with h | h | h
      · exact .inl (.inr ⟨rfl, h⟩)
      · exact .inr (.inl (by rw [h]))
      · exact .inr (.inr (.inr ⟨rfl, h⟩))
    · have : x.1 ≠ y.1 ∨ x.2 ≠ y.2 := by
        rcases Decidable.em (x.1 = y.1) with e | e
        · exact .inr (fun e2 => h (Prod.ext e e2))
        · exact .inl e
      have : (x.1 < y.1 ∨ (x.1 = y.1 ∧ x.2 < y.2)) ∨ (y.1 < x.1 ∨ (y.1 = x.1 ∧ y.2 < x.2)) := by omega
      rcases this with h | h
      · exact .inl (.inl h)
      · exact .inr (.inr (.inl h))
theorem LtL_irr : ∀ a : List Fact, ¬ LtL a a
  | [], h => by cases h
  | x :: r, h => by
    rw [LtL] at h
    rcases h with h | ⟨_, h⟩
    · omega
    · exact LtL_irr r h
def LtN (x y : Nogood) : Prop := x.2 < y.2 ∨ (x.2 = y.2 ∧ LtL x.1 y.1)
theorem cmpN_lt (x y : Nogood) : cmpN x y < 0 ↔ LtN x y := by
  unfold cmpN LtN
  by_cases h : cmpI x.2 y.2 = 0
  · rw [if_neg (by simpa using h), cmpL_lt]
    have := cmpI_zero.1 h
    constructor
    · exact fun h => .inr ⟨this, h⟩
    · rintro (h | ⟨_, h⟩)
      · omega
      · exact h
  · rw [if_pos h, cmpI_lt]
    have : x.2 ≠ y.2 := fun e => h (cmpI_zero.2 e)
    constructor
    · exact fun h => .inl h
    · rintro (h | ⟨h, _⟩)
      · exact h
      · exact absurd h this
theorem LtN_trans {x y z : Nogood} (a : LtN x y) (b : LtN y z) : LtN x z := by
  unfold LtN at *
  rcases a with a | ⟨a, a'⟩ <;> rcases b with b | ⟨b, b'⟩
  · left; omega
  · left; omega
  · left; omega
  · right; exact ⟨by omega, LtL_trans _ _ _ a' b'⟩
theorem LtN_tri (x y : Nogood) : LtN x y ∨ x = y ∨ LtN y x := by
  unfold LtN
  rcases Int.lt_trichotomy x.2 y.2 with h | h | h
  · exact .inl (.inl h)
  · rcases LtL_tri x.1 y.1 with h' | h' | h'
    · exact .inl (.inr ⟨h, h'⟩)
    · exact .inr (.inl (Prod.ext h' h))
    · exact .inr (.inr (.inr ⟨h.symm, h'⟩))
  · exact .inr (.inr (.inl h))
theorem LtN_irr (x : Nogood) : ¬ LtN x x := by
  rintro (h | ⟨_, h⟩)
  · omega
  · exact LtL_irr _ h
/-- not above: below or equal -/
theorem leN_iff (x y : Nogood) : ¬ LtN y x ↔ LtN x y ∨ x = y := by
  constructor
  · intro h
    rcases LtN_tri x y with h' | h' | h'
    · exact .inl h'
    · exact .inr h'
    · exact absurd h' h
  · rintro (h | rfl) h'
    · exact LtN_irr _ (LtN_trans h h')
    · exact LtN_irr _ h'
theorem leI_iff (x y : Item) : leB ltI x y ↔ ¬ LtN y.2 x.2 := by
  unfold leB ltI
  rw [decide_eq_false_iff_not, cmpN_lt]
theorem ordI : Ord ltI := by
  constructor
  · intro x y z h1 h2
    rw [leI_iff, leN_iff] at *
    rcases h1 with h1 | h1 <;> rcases h2 with h2 | h2
    · exact .inl (LtN_trans h1 h2)
    · exact .inl (by rw [← h2]; exact h1)
    · exact .inl (by rw [h1]; exact h2)
    · exact .inr (by rw [h1, h2])
  · intro x y h
    rw [leI_iff, leN_iff]
    left
    unfold ltI at h
    rw [decide_eq_true_eq, cmpN_lt] at h
    exact h
end Go.Proofs.YticdfbhbbapbdaaDoor
