/- Texts of the proof, part 3 of 5. -/
import Derived.Test.YticdfbhbbapbdaaDoorB2
import Derived.IntWalk
import Derived.Test.YticdfbhbbapbdaaDoorB1
import Derived.Deep.RegionHeld3
import Derived.Laws.StructEq
/- slices.symMergeCmpFunc over nogoods. -/
namespace Go.Proofs.YticdfbhbbapbdaaDoor
open Go.RowKit


set_option maxHeartbeats 8000000 in
set_option maxRecDepth 100000 in
theorem sym_left (o : Ord ltI) (g cap N a b : Nat) (f : Nat → Item) (w : World) (h : RowI w g cap N f) (hgd : GoodI w g N f) (hab : a + 1 < b) (hb : b ≤ N) (hN : N ≤ 100000) (hs : SortedOn ltI f (a + 1) b) :
    Calls Tryd.prog 76 #[.slice (some ⟨g, 0, none⟩) N cap, .int .i64 a, .int .i64 ((a : Int) + 1), .int .i64 b, cmpV] w fun e w' => e = .returned (.tuple #[]) ∧ Sorted w w' g cap N a b f := by
  have hd1 : ((a : Int) + 1 - a == 1) = true := by simp; omega
  have HR := Lib.hid h
  have HGD := Lib.hid hgd
  have HO := Lib.hid o
  have HS := Lib.hid hs
  clear h hgd o hs
  unfold cmpV
  go_enter Tryd.func76, Tryd.ntmps76
  go_wp2
  go_loopg [10, 11] (b - (a + 1)) (fun gh iv jv wr => ∃ (i j : Nat), a + 1 ≤ i ∧ i ≤ j ∧ j ≤ b ∧ gh = j - i ∧ iv = .int .i64 i ∧ jv = .int .i64 j ∧ RowI wr g cap N f ∧ w.grownBy wr (some g) ∧ (a + 1 < i → ltI (f (i - 1)) (f a) = true) ∧ (j < b → ltI (f j) (f a) = false))
  case atStart => exact ⟨a + 1, b, Nat.le_refl _, by omega, Nat.le_refl _, rfl, by go_num, rfl, HR.out, World.grownBy.refl _ _, fun h => by omega, fun h => by omega⟩
  case round =>
    obtain ⟨i, j, hi, hij, hj, hg, rfl, rfl, hr, hgr, hl, hrr⟩ := hrel
    have hgdr := HGD.out.keep HR.out hr hgr (Within.refl a b f) hb
    by_cases hlt : i < j
    · obtain ⟨h, hh⟩ : ∃ h, h = (i + j) / 2 := ⟨_, rfl⟩
      have hh2 : ((i : Int) + j) / 2 = (h : Int) := by omega
      have hh3 : i ≤ h ∧ h < j := by omega
      obtain ⟨hih, hhj⟩ := hh3
      have hhN : h < N := by omega
      have haN : a < N := by omega
      have HG := Lib.hid hg
      have HRR := Lib.hid hr
      have HGR := Lib.hid hgr
      have HL := Lib.hid hl
      have HRT := Lib.hid hrr
      have HGDR := Lib.hid hgdr
      have HH := Lib.hid hh
      have HH2 := Lib.hid hh2
      clear hg hr hgr hl hrr hgdr hh hh2
      go_upto_region 5 with fail
      rw [HH2.out]
      obtain ⟨c0, c1⟩ := HRR.out.cell (k := h) (by omega)
      obtain ⟨d0, d1⟩ := HRR.out.cell (k := a) (by omega)
      have hcm := HGDR.out.cmp (i := h) (j := a) (by omega) (by omega) wr.drew (Below.refl _ _).drew
      have hlt2 : ltI (f (h)) (f (a)) = decide (cmpN (f (h)).2 (f (a)).2 < 0) := rfl
      generalize cmpN (f (h)).2 (f (a)).2 = cc at hcm hlt2
      have HCM := Lib.hid hcm
      have HLT2 := Lib.hid hlt2
      clear hcm hlt2
      go_cut [50] (fun s wx => s = .bool (decide (cc < 0)) ∧ Below wr.heap.size wr wx)
      case first =>
        go_region_held3 (fun w' => w'.cell? ⟨g, (h) * 2, none⟩ = some (.slice (f (h)).1.1 (f (h)).1.2.1 (f (h)).1.2.2) ∧ w'.cell? ⟨g, (h) * 2 + 1, none⟩ = some (.int .i64 (f (h)).2.2) ∧ w'.cell? ⟨g, (a) * 2, none⟩ = some (.slice (f (a)).1.1 (f (a)).1.2.1 (f (a)).1.2.2) ∧ w'.cell? ⟨g, (a) * 2 + 1, none⟩ = some (.int .i64 (f (a)).2.2))
          (first | exact ⟨r0, r1, r2, r3⟩ | exact ⟨c0, c1, d0, d1⟩)
          (first
            | (go_at_call 45; refine HCM.out.mono ?_; rintro e w1 ⟨rfl, hb1⟩; have r0 := kept hb1 c0; have r1 := kept hb1 c1; have r2 := kept hb1 d0; have r3 := kept hb1 d1; have HB1 : Hid (Below wr.heap.size wr w1) := belowT ((Below.refl _ _).drew) hb1; clear hb1)
            | fail)
        all_goals (go_wp2_with fail; go_meet; exact ⟨rfl, HB1.out⟩)
      case rest =>
        obtain ⟨rfl, hB1⟩ := hcut
        have hr1 := HRR.out.keep hB1
        have hgr1 : w.grownBy wc (some g) := World.grownBy.trans HGR.out (grown_of_below hB1 _)
        by_cases hcc : cc < 0
        · have hl1 : ltI (f (h + 1 - 1)) (f a) = true := by rw [show h + 1 - 1 = h by omega, HLT2.out]; simpa using hcc
          have HR1 := Lib.hid hr1
          have HGR1 := Lib.hid hgr1
          have HL1 := Lib.hid hl1
          clear hr1 hgr1 hl1
          clear hB1
          go_wp2_with fail
          go_roundg (j - (h + 1))
          case measure => have := HG.out; omega
          case rel => exact ⟨h + 1, j, by omega, by omega, hj, rfl, by go_num, rfl, HR1.out, HGR1.out, fun _ => HL1.out, HRT.out⟩
        · have hl1 : ltI (f h) (f a) = false := by rw [HLT2.out]; simpa using hcc
          have HR1 := Lib.hid hr1
          have HGR1 := Lib.hid hgr1
          have HL1 := Lib.hid hl1
          clear hr1 hgr1 hl1
          clear hB1
          go_wp2_with fail
          go_roundg (h - i)
          case measure => have := HG.out; omega
          case rel => exact ⟨i, h, hi, hih, by omega, rfl, rfl, rfl, HR1.out, HGR1.out, HL.out, fun _ => HL1.out⟩
    · obtain rfl : i = j := by omega
      have hfin := ins_up HO.out HS.out hi hj hl hrr
      have HG := Lib.hid hg
      have HRR := Lib.hid hr
      have HGR := Lib.hid hgr
      have HL := Lib.hid hl
      have HRT := Lib.hid hrr
      have HGDR := Lib.hid hgdr
      have HFIN := Lib.hid hfin
      clear hg hr hgr hl hrr hgdr hfin
      have ei : (i : Int) - 1 = ((i - 1 : Nat) : Int) := by omega
      have EI := Lib.hid ei
      clear ei
      go_wp2_with fail
      go_loopg [13] (i - 1 - a) (fun gh kv wr => ∃ k : Nat, a ≤ k ∧ k ≤ i - 1 ∧ gh = i - 1 - k ∧ kv = .int .i64 k ∧ RowI wr g cap N (rot f a (a + 1) (k + 1)) ∧ PermF N f (rot f a (a + 1) (k + 1)) ∧ w.grownBy wr (some g))
      case atStart => exact ⟨a, Nat.le_refl _, by omega, rfl, rfl, by rw [rot_right]; exact HRR.out, by rw [rot_right]; exact PermF.refl _ _, HGR.out⟩
      case round =>
        obtain ⟨k, hk1, hk2, hgk, rfl, hr2, hp2, hgr2⟩ := hrel
        by_cases hlk : k < i - 1
        · have hlk' : (k : Int) < (i : Int) - 1 := by omega
          obtain ⟨c0, c1⟩ := hr2.cell (k := k) (by omega)
          obtain ⟨d0, d1⟩ := hr2.cell (k := k + 1) (by omega)
          have fz := hr2.free
          have hsw := row_swap hr2 (i := k) (j := k + 1) (by omega) (by omega)
          have hpp := hp2.trans (swp_perm (rot f a (a + 1) (k + 1)) (i := k) (j := k + 1) (N := N) (by omega) (by omega))
          rw [rot_up f a k hk1] at hsw hpp
          have e1 : ((k : Int) + 1).toNat = k + 1 := by omega
          have w1 : IntKind.i64.wrap ((k : Int) + 1) = (k : Int) + 1 := by rw [IntKind.wrap_i64]; omega
          have b1 : 0 ≤ (k : Int) + 1 := by omega
          have l1 : (k : Int) + 1 < N := by omega
          have l2 : k < N := by omega
          have HGK := Lib.hid hgk
          have HR2 := Lib.hid hr2
          have HP2 := Lib.hid hp2
          have HGR2 := Lib.hid hgr2
          have HSW := Lib.hid hsw
          have HPP := Lib.hid hpp
          clear hgk hr2 hp2 hgr2 hsw hpp
          go_upto_region 11 with fail
          go_region
          go_wp2
          go_roundg (i - 1 - (k + 1))
          case measure => have := HGK.out; omega
          case rel => exact ⟨k + 1, by omega, by omega, rfl, by go_num, HSW.out.1, HPP.out, grown_drew_r (World.grownBy.trans HGR2.out HSW.out.2)⟩
        · have hlk' : ¬ ((k : Int) < (i : Int) - 1) := by omega
          have hki : k + 1 = i := by omega
          rw [hki] at hr2 hp2
          have hwn := (rot_within f a (a + 1) i (by omega) hi).mono (Nat.le_refl _) hj
          have HGK := Lib.hid hgk
          have HR2 := Lib.hid hr2
          have HP2 := Lib.hid hp2
          have HGR2 := Lib.hid hgr2
          have HWN := Lib.hid hwn
          have HKI := Lib.hid hki
          clear hgk hr2 hp2 hgr2 hwn hki
          go_wp2_with fail
          (try simp only [Exit.inBlock, Exit.then])
          refine bodyPost_ret (results_none rfl _ _ _) rfl ?_
          exact ⟨rfl, _, HR2.out, HP2.out, HWN.out, HFIN.out, HGR2.out⟩

set_option maxHeartbeats 8000000 in
set_option maxRecDepth 100000 in
theorem sym_right (o : Ord ltI) (g cap N a m : Nat) (f : Nat → Item) (w : World) (h : RowI w g cap N f) (hgd : GoodI w g N f) (ham : a + 1 < m) (hb : m + 1 ≤ N) (hN : N ≤ 100000) (hs : SortedOn ltI f a m) :
    Calls Tryd.prog 76 #[.slice (some ⟨g, 0, none⟩) N cap, .int .i64 a, .int .i64 m, .int .i64 ((m : Int) + 1), cmpV] w fun e w' => e = .returned (.tuple #[]) ∧ Sorted w w' g cap N a (m + 1) f := by
  have hd1 : ((m : Int) - a == 1) = false := by simp; omega
  have hd2 : ((m : Int) + 1 - m == 1) = true := by simp; omega
  have HR := Lib.hid h
  have HGD := Lib.hid hgd
  have HO := Lib.hid o
  have HS := Lib.hid hs
  clear h hgd o hs
  unfold cmpV
  go_enter Tryd.func76, Tryd.ntmps76
  go_wp2
  go_loopg [14, 15] (m - a) (fun gh iv jv wr => ∃ (i j : Nat), a ≤ i ∧ i ≤ j ∧ j ≤ m ∧ gh = j - i ∧ iv = .int .i64 i ∧ jv = .int .i64 j ∧ RowI wr g cap N f ∧ w.grownBy wr (some g) ∧ (a < i → ltI (f m) (f (i - 1)) = false) ∧ (j < m → ltI (f m) (f j) = true))
  case atStart => exact ⟨a, m, Nat.le_refl _, by omega, Nat.le_refl _, rfl, rfl, rfl, HR.out, World.grownBy.refl _ _, fun h => by omega, fun h => by omega⟩
  case round =>
    obtain ⟨i, j, hi, hij, hj, hg, rfl, rfl, hr, hgr, hl, hrr⟩ := hrel
    have hgdr := HGD.out.keep HR.out hr hgr (Within.refl a m f) (by omega)
    by_cases hlt : i < j
    · obtain ⟨h, hh⟩ : ∃ h, h = (i + j) / 2 := ⟨_, rfl⟩
      have hh2 : ((i : Int) + j) / 2 = (h : Int) := by omega
      have hh3 : i ≤ h ∧ h < j := by omega
      obtain ⟨hih, hhj⟩ := hh3
      have hhN : h < N := by omega
      have hmN : m < N := by omega
      have HG := Lib.hid hg
      have HRR := Lib.hid hr
      have HGR := Lib.hid hgr
      have HL := Lib.hid hl
      have HRT := Lib.hid hrr
      have HGDR := Lib.hid hgdr
      have HH := Lib.hid hh
      have HH2 := Lib.hid hh2
      clear hg hr hgr hl hrr hgdr hh hh2
      go_upto_region 17 with fail
      rw [HH2.out]
      obtain ⟨c0, c1⟩ := HRR.out.cell (k := m) (by omega)
      obtain ⟨d0, d1⟩ := HRR.out.cell (k := h) (by omega)
      have hcm := HGDR.out.cmp (i := m) (j := h) (by omega) (by omega) wr.drew (Below.refl _ _).drew
      have hlt2 : ltI (f (m)) (f (h)) = decide (cmpN (f (m)).2 (f (h)).2 < 0) := rfl
      generalize cmpN (f (m)).2 (f (h)).2 = cc at hcm hlt2
      have HCM := Lib.hid hcm
      have HLT2 := Lib.hid hlt2
      clear hcm hlt2
      go_cut [103] (fun s wx => s = .bool (!decide (cc < 0)) ∧ Below wr.heap.size wr wx)
      case first =>
        go_region_held3 (fun w' => w'.cell? ⟨g, (m) * 2, none⟩ = some (.slice (f (m)).1.1 (f (m)).1.2.1 (f (m)).1.2.2) ∧ w'.cell? ⟨g, (m) * 2 + 1, none⟩ = some (.int .i64 (f (m)).2.2) ∧ w'.cell? ⟨g, (h) * 2, none⟩ = some (.slice (f (h)).1.1 (f (h)).1.2.1 (f (h)).1.2.2) ∧ w'.cell? ⟨g, (h) * 2 + 1, none⟩ = some (.int .i64 (f (h)).2.2))
          (first | exact ⟨r0, r1, r2, r3⟩ | exact ⟨c0, c1, d0, d1⟩)
          (first
            | (go_at_call 45; refine HCM.out.mono ?_; rintro e w1 ⟨rfl, hb1⟩; have r0 := kept hb1 c0; have r1 := kept hb1 c1; have r2 := kept hb1 d0; have r3 := kept hb1 d1; have HB1 : Hid (Below wr.heap.size wr w1) := belowT ((Below.refl _ _).drew) hb1; clear hb1)
            | fail)
        all_goals (go_wp2_with fail; go_meet; exact ⟨rfl, HB1.out⟩)
      case rest =>
        obtain ⟨t, ht⟩ : ∃ t, (!decide (cc < 0)) = t := ⟨_, rfl⟩
        rw [ht] at hcut
        obtain ⟨rfl, hB1⟩ := hcut
        have hr1 := HRR.out.keep hB1
        have hgr1 : w.grownBy wc (some g) := World.grownBy.trans HGR.out (grown_of_below hB1 _)
        cases t
        · have hcc : cc < 0 := by simpa using ht
          clear ht
          have hl1 : ltI (f m) (f h) = true := by rw [HLT2.out]; simpa using hcc
          clear hcc
          have HR1 := Lib.hid hr1
          have HGR1 := Lib.hid hgr1
          have HL1 := Lib.hid hl1
          clear hr1 hgr1 hl1
          clear hB1
          go_wp2_with fail
          go_roundg (h - i)
          case measure => have := HG.out; omega
          case rel => exact ⟨i, h, hi, hih, by omega, rfl, rfl, rfl, HR1.out, HGR1.out, HL.out, fun _ => HL1.out⟩
        · have hcc : ¬ cc < 0 := by simpa using ht
          clear ht
          have hl1 : ltI (f m) (f (h + 1 - 1)) = false := by rw [show h + 1 - 1 = h by omega, HLT2.out]; simpa using hcc
          clear hcc
          have HR1 := Lib.hid hr1
          have HGR1 := Lib.hid hgr1
          have HL1 := Lib.hid hl1
          clear hr1 hgr1 hl1
          clear hB1
          go_wp2_with fail
          go_roundg (j - (h + 1))
          case measure => have := HG.out; omega
          case rel => exact ⟨h + 1, j, by omega, by omega, hj, rfl, by go_num, rfl, HR1.out, HGR1.out, fun _ => HL1.out, HRT.out⟩
    · obtain rfl : i = j := by omega
      have hfin := ins_down HO.out HS.out hi hj hl hrr
      have HG := Lib.hid hg
      have HRR := Lib.hid hr
      have HGR := Lib.hid hgr
      have HL := Lib.hid hl
      have HRT := Lib.hid hrr
      have HGDR := Lib.hid hgdr
      have HFIN := Lib.hid hfin
      clear hg hr hgr hl hrr hgdr hfin
      go_wp2_with fail
      go_loopg [17] (m - i) (fun gh kv wr => ∃ k : Nat, i ≤ k ∧ k ≤ m ∧ gh = k - i ∧ kv = .int .i64 k ∧ RowI wr g cap N (rot f k m (m + 1)) ∧ PermF N f (rot f k m (m + 1)) ∧ w.grownBy wr (some g))
      case atStart => exact ⟨m, hj, Nat.le_refl _, rfl, rfl, by rw [rot_left]; exact HRR.out, by rw [rot_left]; exact PermF.refl _ _, HGR.out⟩
      case round =>
        obtain ⟨k, hk1, hk2, hgk, rfl, hr2, hp2, hgr2⟩ := hrel
        by_cases hlk : i < k
        · obtain ⟨c0, c1⟩ := hr2.cell (k := k) (by omega)
          obtain ⟨d0, d1⟩ := hr2.cell (k := k - 1) (by omega)
          have fz := hr2.free
          have hsw := row_swap hr2 (i := k) (j := k - 1) (by omega) (by omega)
          have hpp := hp2.trans (swp_perm (rot f k m (m + 1)) (i := k) (j := k - 1) (N := N) (by omega) (by omega))
          rw [rot_down f m k (by omega) hk2] at hsw hpp
          have e1 : ((k : Int) - 1).toNat = k - 1 := by omega
          have e2 : (k : Int) - 1 = ((k - 1 : Nat) : Int) := by omega
          have w1 : IntKind.i64.wrap ((k : Int) - 1) = (k : Int) - 1 := by rw [IntKind.wrap_i64]; omega
          have b1 : 0 ≤ (k : Int) - 1 := by omega
          have b2 : 1 ≤ (k : Int) := by omega
          have l1 : (k : Int) - 1 < N := by omega
          have l2 : k < N := by omega
          have HGK := Lib.hid hgk
          have HR2 := Lib.hid hr2
          have HP2 := Lib.hid hp2
          have HGR2 := Lib.hid hgr2
          have HSW := Lib.hid hsw
          have HPP := Lib.hid hpp
          have E2 := Lib.hid e2
          clear hgk hr2 hp2 hgr2 hsw hpp e2
          go_upto_region 23 with fail
          go_region
          go_wp2
          go_roundg (k - 1 - i)
          case measure => have := HGK.out; omega
          case rel => exact ⟨k - 1, by omega, by omega, rfl, by rw [← E2.out], HSW.out.1, HPP.out, grown_drew_r (World.grownBy.trans HGR2.out HSW.out.2)⟩
        · obtain rfl : k = i := by omega
          have hwn := (rot_within f k m (m + 1) hj (by omega)).mono hi (Nat.le_refl _)
          have HGK := Lib.hid hgk
          have HR2 := Lib.hid hr2
          have HP2 := Lib.hid hp2
          have HGR2 := Lib.hid hgr2
          have HWN := Lib.hid hwn
          clear hgk hr2 hp2 hgr2 hwn
          go_wp2_with fail
          (try simp only [Exit.inBlock, Exit.then])
          refine bodyPost_ret (results_none rfl _ _ _) rfl ?_
          exact ⟨rfl, _, HR2.out, HP2.out, HWN.out, HFIN.out, HGR2.out⟩
end Go.Proofs.YticdfbhbbapbdaaDoor
/- slices.symMergeCmpFunc over nogoods: the cut, the rotation and the two merges. -/
namespace Go.Proofs.YticdfbhbbapbdaaDoor
open Go.RowKit

abbrev symArgs (g cap N a m b : Nat) : Array Value := #[.slice (some ⟨g, 0, none⟩) N cap, .int .i64 a, .int .i64 m, .int .i64 b, cmpV]

set_option maxHeartbeats 16000000 in
set_option maxRecDepth 100000 in
theorem sym_gen1 (o : Ord ltI) (g cap N a m b : Nat) (f : Nat → Item) (w : World) (h : RowI w g cap N f) (hgd : GoodI w g N f) (ham2 : a + 1 < m) (hmb2 : m + 1 < b) (hb : b ≤ N) (hN : N ≤ 100000) (hs1 : SortedOn ltI f a m) (hs2 : SortedOn ltI f m b)
    (hmm : (a + b) / 2 < m)
    (ih : ∀ (a' m' b' : Nat) (f' : Nat → Item) (w' : World), b' - a' < b - a → a' < m' → m' < b' → b' ≤ N → RowI w' g cap N f' → GoodI w' g N f' → SortedOn ltI f' a' m' → SortedOn ltI f' m' b' → Calls Tryd.prog 76 (symArgs g cap N a' m' b') w' fun e w'' => e = .returned (.tuple #[]) ∧ Sorted w' w'' g cap N a' b' f') :
    Calls Tryd.prog 76 #[.slice (some ⟨g, 0, none⟩) N cap, .int .i64 a, .int .i64 m, .int .i64 b, cmpV] w fun e w' => e = .returned (.tuple #[]) ∧ Sorted w w' g cap N a b f := by
  have hd1 : ((m : Int) - a == 1) = false := by simp; omega
  have hd2 : ((b : Int) - m == 1) = false := by simp; omega
  obtain ⟨mid, hmid⟩ : ∃ mid, mid = (a + b) / 2 := ⟨_, rfl⟩
  rw [← hmid] at hmm
  obtain ⟨p, hp⟩ : ∃ p, p = mid + m - 1 := ⟨_, rfl⟩
  have hmidI : ((a : Int) + b) / 2 = (mid : Int) := by omega
  have hnI : (mid : Int) + m = ((mid + m : Nat) : Int) := by omega
  have hpI : (mid : Int) + m - 1 = (p : Int) := by omega
  have ham : a < m := by omega
  have hmd1 : 2 * mid ≤ a + b := by omega
  have hmd2 : a + b ≤ 2 * mid + 1 := by omega
  have hp1 : p + 1 ≤ mid + m := by omega
  have hp2 : mid + m ≤ p + 1 := by omega
  unfold symArgs cmpV at ih
  unfold cmpV
  have HR := Lib.hid h
  have HGD := Lib.hid hgd
  have HO := Lib.hid o
  have HS1 := Lib.hid hs1
  have HS2 := Lib.hid hs2
  have IH := Lib.hid ih
  have HMID := Lib.hid hmid
  have HPP := Lib.hid hp
  clear h hgd o hs1 hs2 ih hmid hp
  have hloI : (mid : Int) + m - b = ((mid + m - b : Nat) : Int) := by omega
  have hlo1 : b ≤ mid + m := by omega
  have HLOI := Lib.hid hloI
  clear hloI
  go_enter Tryd.func76, Tryd.ntmps76
  have HMIDI := Lib.hid hmidI
  have HNI := Lib.hid hnI
  have HPI := Lib.hid hpI
  clear hmidI hnI hpI
  go_upto_region 25 with fail
  rw [HMIDI.out]
  go_wp2_with fail
  try rw [HLOI.out]
  rw [HPI.out]
  go_loopg [20, 21] (mid - (mid + m - b)) (fun gh iv jv wr => ∃ (s r : Nat), mid + m - b ≤ s ∧ s ≤ r ∧ r ≤ mid ∧ gh = r - s ∧ iv = .int .i64 s ∧ jv = .int .i64 r ∧ RowI wr g cap N f ∧ w.grownBy wr (some g) ∧ (mid + m - b < s → ltI (f (p - (s - 1))) (f (s - 1)) = false) ∧ (r < mid → ltI (f (p - r)) (f r) = true))
  case atStart => exact ⟨mid + m - b, mid, Nat.le_refl _, by omega, Nat.le_refl _, rfl, rfl, rfl, HR.out, World.grownBy.refl _ _, fun h => by omega, fun h => by omega⟩
  case round =>
    obtain ⟨s, r, hs1, hsr, hr1, hg, rfl, rfl, hr, hgr, hl, hrr⟩ := hrel
    have hgdr := HGD.out.keep HR.out hr hgr (Within.refl a b f) hb
    by_cases hlt : s < r
    · as_aux_lemma =>
        obtain ⟨c, hc⟩ : ∃ c, c = (s + r) / 2 := ⟨_, rfl⟩
        have hc2 : ((s : Int) + r) / 2 = (c : Int) := by omega
        have hc3 : s ≤ c ∧ c < r := by omega
        obtain ⟨hsc, hcr⟩ := hc3
        have hcN : c < N := by omega
        have hpN : p - c < N := by omega
        have hpc : (p : Int) - c = ((p - c : Nat) : Int) := by omega
        have hpc0 : 0 ≤ (p : Int) - c := by omega
        have hpcN : (p : Int) - c < N := by omega
        have hpcT : ((p : Int) - c).toNat = p - c := by omega
        have hcp : c ≤ p := by omega
        have hcpI : (c : Int) ≤ p := by omega
        have hcpN : p < N + c := by omega
        have hcpN2 : p < c + N := by omega
        have hcpNI : (p : Int) < (N : Int) + c := by omega
        have hpcw : IntKind.i64.wrap ((p : Int) - c) = (p : Int) - c := by rw [IntKind.wrap_i64]; omega
        have HG := Lib.hid hg
        have HRR := Lib.hid hr
        have HGR := Lib.hid hgr
        have HL := Lib.hid hl
        have HRT := Lib.hid hrr
        have HGDR := Lib.hid hgdr
        have HC := Lib.hid hc
        have HC2 := Lib.hid hc2
        have HPC := Lib.hid hpc
        clear hg hr hgr hl hrr hgdr hc hc2 hpc
        go_upto_region 35 with fail
        rw [HC2.out]
        obtain ⟨c0, c1⟩ := HRR.out.cell (k := p - c) (by omega)
        obtain ⟨d0, d1⟩ := HRR.out.cell (k := c) (by omega)
        have hcm := HGDR.out.cmp (i := p - c) (j := c) (by omega) (by omega) wr.drew (Below.refl _ _).drew
        have hlt2 : ltI (f (p - c)) (f (c)) = decide (cmpN (f (p - c)).2 (f (c)).2 < 0) := rfl
        generalize cmpN (f (p - c)).2 (f (c)).2 = cc at hcm hlt2
        have HCM := Lib.hid hcm
        have HLT2 := Lib.hid hlt2
        clear hcm hlt2
        go_cut [171] (fun s wx => s = .bool (!decide (cc < 0)) ∧ Below wr.heap.size wr wx)
        case first =>
          go_region_held3 (fun w' => w'.cell? ⟨g, (p - c) * 2, none⟩ = some (.slice (f (p - c)).1.1 (f (p - c)).1.2.1 (f (p - c)).1.2.2) ∧ w'.cell? ⟨g, (p - c) * 2 + 1, none⟩ = some (.int .i64 (f (p - c)).2.2) ∧ w'.cell? ⟨g, (c) * 2, none⟩ = some (.slice (f (c)).1.1 (f (c)).1.2.1 (f (c)).1.2.2) ∧ w'.cell? ⟨g, (c) * 2 + 1, none⟩ = some (.int .i64 (f (c)).2.2))
            (first | exact ⟨r0, r1, r2, r3⟩ | exact ⟨c0, c1, d0, d1⟩)
            (first
              | (go_at_call 45; refine HCM.out.mono ?_; rintro e w1 ⟨rfl, hb1⟩; have r0 := kept hb1 c0; have r1 := kept hb1 c1; have r2 := kept hb1 d0; have r3 := kept hb1 d1; have HB1 : Hid (Below wr.heap.size wr w1) := belowT ((Below.refl _ _).drew) hb1; clear hb1)
              | fail)
          all_goals (go_wp2_with fail; go_meet; exact ⟨rfl, HB1.out⟩)
        case rest =>
          as_aux_lemma =>
            obtain ⟨t, ht⟩ : ∃ t, (!decide (cc < 0)) = t := ⟨_, rfl⟩
            rw [ht] at hcut
            obtain ⟨rfl, hB1⟩ := hcut
            have hr1' := HRR.out.keep hB1
            have hgr1 : w.grownBy wc (some g) := World.grownBy.trans HGR.out (grown_of_below hB1 _)
            cases t
            · have hcc : cc < 0 := by simpa using ht
              clear ht
              have hl1 : ltI (f (p - c)) (f c) = true := by rw [HLT2.out]; simpa using hcc
              clear hcc
              have HR1 := Lib.hid hr1'
              have HGR1 := Lib.hid hgr1
              have HL1 := Lib.hid hl1
              clear hr1' hgr1 hl1
              clear hB1
              go_wp2_with fail
              go_roundg (c - s)
              case measure => have := HG.out; omega
              case rel => exact ⟨s, c, hs1, hsc, by omega, rfl, rfl, rfl, HR1.out, HGR1.out, HL.out, fun _ => HL1.out⟩
            · have hcc : ¬ cc < 0 := by simpa using ht
              clear ht
              have hl1 : ltI (f (p - (c + 1 - 1))) (f (c + 1 - 1)) = false := by rw [show c + 1 - 1 = c by omega, HLT2.out]; simpa using hcc
              clear hcc
              have HR1 := Lib.hid hr1'
              have HGR1 := Lib.hid hgr1
              have HL1 := Lib.hid hl1
              clear hr1' hgr1 hl1
              clear hB1
              go_wp2_with fail
              go_roundg (r - (c + 1))
              case measure => have := HG.out; omega
              case rel => exact ⟨c + 1, r, by omega, by omega, hr1, rfl, by go_num, rfl, HR1.out, HGR1.out, fun _ => HL1.out, HRT.out⟩
    · as_aux_lemma =>
        obtain rfl : s = r := by omega
        obtain ⟨e, he⟩ : ∃ e, e = mid + m - s := ⟨_, rfl⟩
        have heI : (mid : Int) + m - s = (e : Int) := by omega
        have hcut' := sym_cut HO.out (mid := mid) (s := s) (e := e) HS1.out HS2.out ham (by omega) (by omega) (by omega) (by omega) (by omega)
          (fun h1 h2 => by have := hl (by omega); rwa [show p - (s - 1) = e by omega] at this)
          (fun h1 h2 => by have := hrr (by omega); rwa [show p - s = e - 1 by omega] at this)
        have hwn := (rot_within f s m e (by omega) (by omega)).mono (show a ≤ s by omega) (show e ≤ b by omega)
        have hrot := fun (h1 : s < m) (h2 : m < e) => rotate_calls g cap N s m e (.func (.func 45) #[] #[]) f wr hr h1 h2 (by omega) hN
        have hrl := rot_left f m e
        have hrr' := rot_right f s m
        have hsm : s ≤ mid := by omega
        have hme : mid ≤ e := by omega
        have hsm' : s ≤ m := by omega
        have hem : m ≤ e := by omega
        have heb : e ≤ b := by omega
        have has : a ≤ s := by omega
        have hse : s + e = mid + m := by omega
        have HG := Lib.hid hg
        have HRR := Lib.hid hr
        have HGR := Lib.hid hgr
        have HL := Lib.hid hl
        have HRT := Lib.hid hrr
        have HGDR := Lib.hid hgdr
        have HE := Lib.hid he
        have HEI := Lib.hid heI
        have HCUT := Lib.hid hcut'
        have HWN := Lib.hid hwn
        have HROT := Lib.hid hrot
        have HRL := Lib.hid hrl
        have HRRR := Lib.hid hrr'
        have HSE := Lib.hid hse
        clear hg hr hgr hl hrr hgdr he heI hcut' hwn hrot hrl hrr' hse
        go_upto_region 39 with fail
        rw [HEI.out]
        obtain ⟨t, ht⟩ : ∃ t, (decide (s < m) && decide (m < e)) = t := ⟨_, rfl⟩
        have HTX := Lib.hid ht
        clear ht
        go_cut [185] (fun z wx => z = .bool t ∧ wx = wr)
        case first =>
          by_cases x1 : s < m
          · by_cases x2 : m < e
            · go_wp2_with fail
              go_meet
              exact ⟨by rw [← HTX.out]; simp [x1, x2], rfl⟩
            · go_wp2_with fail
              go_meet
              exact ⟨by rw [← HTX.out]; simp [x2], rfl⟩
          · go_wp2_with fail
            go_meet
            exact ⟨by rw [← HTX.out]; simp [x1], rfl⟩
        case rest =>
        obtain ⟨rfl, rfl⟩ := hcut
        obtain ⟨wr, rfl⟩ : ∃ wr : World, wr = wc := ⟨_, rfl⟩
        have ht := HTX.out
        clear HTX
        go_upto_if 185 with fail
        go_cut [] (fun wx => RowI wx g cap N (rot f s m e) ∧ PermF N f (rot f s m e) ∧ w.grownBy wx (some g))
        case first =>
          as_aux_lemma =>
            cases t
            · have hid : rot f s m e = f := by
                simp only [Bool.and_eq_false_iff, decide_eq_false_iff_not] at ht
                rcases ht with ht | ht
                · rw [show s = m by omega]; exact HRL.out
                · rw [show e = m by omega]; exact HRRR.out
              have HIDE := Lib.hid hid
              have HT := Lib.hid ht
              clear hid ht
              go_wp2_with fail
              go_meet
              rw [HIDE.out]
              exact ⟨HRR.out, PermF.refl _ _, HGR.out⟩
            · simp only [Bool.and_eq_true, decide_eq_true_eq] at ht
              have hro := HROT.out ht.1 ht.2
              have HRO := Lib.hid hro
              have HT := Lib.hid ht
              clear hro ht
              go_wp2_with (go_at_call 86; refine HRO.out.mono ?_; rintro e' w1 ⟨rfl, hr1, hp1, hg1⟩)
              go_meet
              exact ⟨hr1, hp1, World.grownBy.trans HGR.out hg1⟩
        case rest =>
          as_aux_lemma =>
            obtain ⟨hra, hpa, hga⟩ := hcut
            have hgda := HGD.out.keep HR.out hra hga HWN.out hb
            obtain ⟨wa, rfl⟩ : ∃ wa : World, wa = wc := ⟨_, rfl⟩
            obtain ⟨hf, hhf⟩ : ∃ hf, hf = rot f s m e := ⟨_, rfl⟩
            have hcuts := HCUT.out
            have hwnA := HWN.out
            rw [← hhf] at hra hpa hgda hcuts hwnA
            obtain ⟨q1, q2, q3, q4, q5⟩ := hcuts
            have hc1 := fun (h1 : a < s) (h2 : s < mid) => IH.out a s mid hf wa (by omega) h1 h2 (by omega) hra hgda q1 q2
            have HRA := Lib.hid hra
            have HPA := Lib.hid hpa
            have HGA := Lib.hid hga
            have HGDA := Lib.hid hgda
            have HHF := Lib.hid hhf
            have Q1 := Lib.hid q1
            have Q2 := Lib.hid q2
            have Q3 := Lib.hid q3
            have Q4 := Lib.hid q4
            have Q5 := Lib.hid q5
            have HC1 := Lib.hid hc1
            have HWNA := Lib.hid hwnA
            have HT0 := Lib.hid ht
            clear hra hpa hga hgda hhf q1 q2 q3 q4 q5 hc1 hwnA ht
            clear HRR HGR HL HRT HGDR HROT HRL HRRR HCUT HWN
            go_upto_region 41 with fail
            obtain ⟨t, ht⟩ : ∃ t, (decide (a < s) && decide (s < mid)) = t := ⟨_, rfl⟩
            have HTX := Lib.hid ht
            clear ht
            go_cut [199] (fun z wx => z = .bool t ∧ wx = wa)
            case first =>
              by_cases x1 : a < s
              · by_cases x2 : s < mid
                · go_wp2_with fail
                  go_meet
                  exact ⟨by rw [← HTX.out]; simp [x1, x2], rfl⟩
                · go_wp2_with fail
                  go_meet
                  exact ⟨by rw [← HTX.out]; simp [x2], rfl⟩
              · go_wp2_with fail
                go_meet
                exact ⟨by rw [← HTX.out]; simp [x1], rfl⟩
            case rest =>
            obtain ⟨rfl, rfl⟩ := hcut
            obtain ⟨wa, rfl⟩ : ∃ wa : World, wa = wc := ⟨_, rfl⟩
            have ht := HTX.out
            clear HTX
            go_upto_if 199 with fail
            go_cut [] (fun wx => ∃ f1, RowI wx g cap N f1 ∧ PermF N hf f1 ∧ Within a mid hf f1 ∧ SortedOn ltI f1 a mid ∧ wa.grownBy wx (some g))
            case first =>
              as_aux_lemma =>
                cases t
                · have hso : SortedOn ltI hf a mid := by
                    simp only [Bool.and_eq_false_iff, decide_eq_false_iff_not] at ht
                    rcases ht with ht | ht
                    · have := Q2.out; rwa [show s = a by omega] at this
                    · have := Q1.out; rwa [show s = mid by omega] at this
                  have HSO := Lib.hid hso
                  have HT := Lib.hid ht
                  clear hso ht
                  go_wp2_with fail
                  go_meet
                  exact ⟨hf, HRA.out, PermF.refl _ _, Within.refl _ _ _, HSO.out, World.grownBy.refl _ _⟩
                · simp only [Bool.and_eq_true, decide_eq_true_eq] at ht
                  have hro := HC1.out ht.1 ht.2
                  have HRO := Lib.hid hro
                  have HT := Lib.hid ht
                  clear hro ht
                  go_wp2_with (go_at_call 76; refine HRO.out.mono ?_; rintro e' w1 ⟨rfl, f1, s1, s2, s3, s4, s5⟩)
                  go_meet
                  exact ⟨f1, s1, s2, s3, s4, s5⟩
            case rest =>
              as_aux_lemma =>
                obtain ⟨f1, hr1, hp1, hw1, hs1, hg1⟩ := hcut
                have hgd1 := HGDA.out.keep HRA.out hr1 hg1 hw1 (by omega)
                obtain ⟨wb, rfl⟩ : ∃ wb : World, wb = wc := ⟨_, rfl⟩
                have q3' := Q3.out.off hw1 (.inr (Nat.le_refl _))
                have q4' := Q4.out.off hw1 (.inr hme)
                have hc2 := fun (h1 : mid < e) (h2 : e < b) => IH.out mid e b f1 wb (by omega) h1 h2 hb hr1 hgd1 q3' q4'
                have HR1 := Lib.hid hr1
                have HP1 := Lib.hid hp1
                have HW1 := Lib.hid hw1
                have HSO1 := Lib.hid hs1
                have HG1 := Lib.hid hg1
                have HGD1 := Lib.hid hgd1
                have Q3' := Lib.hid q3'
                have Q4' := Lib.hid q4'
                have HC2 := Lib.hid hc2
                have HT1 := Lib.hid ht
                clear hr1 hp1 hw1 hs1 hg1 hgd1 q3' q4' hc2 ht
                go_upto_region 43 with fail
                obtain ⟨t, ht⟩ : ∃ t, (decide (mid < e) && decide (e < b)) = t := ⟨_, rfl⟩
                have HTX := Lib.hid ht
                clear ht
                go_cut [213] (fun z wx => z = .bool t ∧ wx = wb)
                case first =>
                  by_cases x1 : mid < e
                  · by_cases x2 : e < b
                    · go_wp2_with fail
                      go_meet
                      exact ⟨by rw [← HTX.out]; simp [x1, x2], rfl⟩
                    · go_wp2_with fail
                      go_meet
                      exact ⟨by rw [← HTX.out]; simp [x2], rfl⟩
                  · go_wp2_with fail
                    go_meet
                    exact ⟨by rw [← HTX.out]; simp [x1], rfl⟩
                case rest =>
                obtain ⟨rfl, rfl⟩ := hcut
                obtain ⟨wb, rfl⟩ : ∃ wb : World, wb = wc := ⟨_, rfl⟩
                have ht := HTX.out
                clear HTX
                cases t
                · have hso : SortedOn ltI f1 mid b := by
                    simp only [Bool.and_eq_false_iff, decide_eq_false_iff_not] at ht
                    rcases ht with ht | ht
                    · have := Q4'.out; rwa [show e = mid by omega] at this
                    · have := Q3'.out; rwa [show e = b by omega] at this
                  have hfin := sym_join HW1.out (Within.refl mid b f1) HSO1.out hso Q5.out
                  have HSO := Lib.hid hso
                  have HT := Lib.hid ht
                  have HFIN := Lib.hid hfin
                  clear hso ht hfin
                  go_wp2_with fail
                  go_end0
                  exact ⟨rfl, f1, HR1.out, PermF.trans HPA.out HP1.out, Within.trans HWNA.out (HW1.out.mono (Nat.le_refl _) (by omega)), HFIN.out, World.grownBy.trans HGA.out HG1.out⟩
                · simp only [Bool.and_eq_true, decide_eq_true_eq] at ht
                  have hro := HC2.out ht.1 ht.2
                  have HRO := Lib.hid hro
                  have HT := Lib.hid ht
                  clear hro ht
                  go_wp2_with (go_at_call 76; refine HRO.out.mono ?_; rintro e' w1 ⟨rfl, f2, s1, s2, s3, s4, s5⟩)
                  go_end0
                  exact ⟨rfl, f2, s1, PermF.trans HPA.out (PermF.trans HP1.out s2), Within.trans HWNA.out (Within.trans (HW1.out.mono (Nat.le_refl _) (by omega)) (s3.mono (by omega) (Nat.le_refl _))), sym_join HW1.out s3 HSO1.out s4 Q5.out, World.grownBy.trans HGA.out (World.grownBy.trans HG1.out s5)⟩

set_option maxHeartbeats 16000000 in
set_option maxRecDepth 100000 in
theorem sym_gen2 (o : Ord ltI) (g cap N a m b : Nat) (f : Nat → Item) (w : World) (h : RowI w g cap N f) (hgd : GoodI w g N f) (ham2 : a + 1 < m) (hmb2 : m + 1 < b) (hb : b ≤ N) (hN : N ≤ 100000) (hs1 : SortedOn ltI f a m) (hs2 : SortedOn ltI f m b)
    (hmm : ¬ (a + b) / 2 < m)
    (ih : ∀ (a' m' b' : Nat) (f' : Nat → Item) (w' : World), b' - a' < b - a → a' < m' → m' < b' → b' ≤ N → RowI w' g cap N f' → GoodI w' g N f' → SortedOn ltI f' a' m' → SortedOn ltI f' m' b' → Calls Tryd.prog 76 (symArgs g cap N a' m' b') w' fun e w'' => e = .returned (.tuple #[]) ∧ Sorted w' w'' g cap N a' b' f') :
    Calls Tryd.prog 76 #[.slice (some ⟨g, 0, none⟩) N cap, .int .i64 a, .int .i64 m, .int .i64 b, cmpV] w fun e w' => e = .returned (.tuple #[]) ∧ Sorted w w' g cap N a b f := by
  have hd1 : ((m : Int) - a == 1) = false := by simp; omega
  have hd2 : ((b : Int) - m == 1) = false := by simp; omega
  obtain ⟨mid, hmid⟩ : ∃ mid, mid = (a + b) / 2 := ⟨_, rfl⟩
  rw [← hmid] at hmm
  obtain ⟨p, hp⟩ : ∃ p, p = mid + m - 1 := ⟨_, rfl⟩
  have hmidI : ((a : Int) + b) / 2 = (mid : Int) := by omega
  have hnI : (mid : Int) + m = ((mid + m : Nat) : Int) := by omega
  have hpI : (mid : Int) + m - 1 = (p : Int) := by omega
  have ham : a < m := by omega
  have hmd1 : 2 * mid ≤ a + b := by omega
  have hmd2 : a + b ≤ 2 * mid + 1 := by omega
  have hp1 : p + 1 ≤ mid + m := by omega
  have hp2 : mid + m ≤ p + 1 := by omega
  unfold symArgs cmpV at ih
  unfold cmpV
  have HR := Lib.hid h
  have HGD := Lib.hid hgd
  have HO := Lib.hid o
  have HS1 := Lib.hid hs1
  have HS2 := Lib.hid hs2
  have IH := Lib.hid ih
  have HMID := Lib.hid hmid
  have HPP := Lib.hid hp
  clear h hgd o hs1 hs2 ih hmid hp
  have HLOI : Hid ((N : Int) = N) := rfl
  go_enter Tryd.func76, Tryd.ntmps76
  have HMIDI := Lib.hid hmidI
  have HNI := Lib.hid hnI
  have HPI := Lib.hid hpI
  clear hmidI hnI hpI
  go_upto_region 25 with fail
  rw [HMIDI.out]
  go_wp2_with fail
  try rw [HLOI.out]
  rw [HPI.out]
  go_loopg [20, 21] (m - (a)) (fun gh iv jv wr => ∃ (s r : Nat), a ≤ s ∧ s ≤ r ∧ r ≤ m ∧ gh = r - s ∧ iv = .int .i64 s ∧ jv = .int .i64 r ∧ RowI wr g cap N f ∧ w.grownBy wr (some g) ∧ (a < s → ltI (f (p - (s - 1))) (f (s - 1)) = false) ∧ (r < m → ltI (f (p - r)) (f r) = true))
  case atStart => exact ⟨a, m, Nat.le_refl _, by omega, Nat.le_refl _, rfl, rfl, rfl, HR.out, World.grownBy.refl _ _, fun h => by omega, fun h => by omega⟩
  case round =>
    obtain ⟨s, r, hs1, hsr, hr1, hg, rfl, rfl, hr, hgr, hl, hrr⟩ := hrel
    have hgdr := HGD.out.keep HR.out hr hgr (Within.refl a b f) hb
    by_cases hlt : s < r
    · as_aux_lemma =>
        obtain ⟨c, hc⟩ : ∃ c, c = (s + r) / 2 := ⟨_, rfl⟩
        have hc2 : ((s : Int) + r) / 2 = (c : Int) := by omega
        have hc3 : s ≤ c ∧ c < r := by omega
        obtain ⟨hsc, hcr⟩ := hc3
        have hcN : c < N := by omega
        have hpN : p - c < N := by omega
        have hpc : (p : Int) - c = ((p - c : Nat) : Int) := by omega
        have hpc0 : 0 ≤ (p : Int) - c := by omega
        have hpcN : (p : Int) - c < N := by omega
        have hpcT : ((p : Int) - c).toNat = p - c := by omega
        have hcp : c ≤ p := by omega
        have hcpI : (c : Int) ≤ p := by omega
        have hcpN : p < N + c := by omega
        have hcpN2 : p < c + N := by omega
        have hcpNI : (p : Int) < (N : Int) + c := by omega
        have hpcw : IntKind.i64.wrap ((p : Int) - c) = (p : Int) - c := by rw [IntKind.wrap_i64]; omega
        have HG := Lib.hid hg
        have HRR := Lib.hid hr
        have HGR := Lib.hid hgr
        have HL := Lib.hid hl
        have HRT := Lib.hid hrr
        have HGDR := Lib.hid hgdr
        have HC := Lib.hid hc
        have HC2 := Lib.hid hc2
        have HPC := Lib.hid hpc
        clear hg hr hgr hl hrr hgdr hc hc2 hpc
        go_upto_region 35 with fail
        rw [HC2.out]
        obtain ⟨c0, c1⟩ := HRR.out.cell (k := p - c) (by omega)
        obtain ⟨d0, d1⟩ := HRR.out.cell (k := c) (by omega)
        have hcm := HGDR.out.cmp (i := p - c) (j := c) (by omega) (by omega) wr.drew (Below.refl _ _).drew
        have hlt2 : ltI (f (p - c)) (f (c)) = decide (cmpN (f (p - c)).2 (f (c)).2 < 0) := rfl
        generalize cmpN (f (p - c)).2 (f (c)).2 = cc at hcm hlt2
        have HCM := Lib.hid hcm
        have HLT2 := Lib.hid hlt2
        clear hcm hlt2
        go_cut [171] (fun s wx => s = .bool (!decide (cc < 0)) ∧ Below wr.heap.size wr wx)
        case first =>
          go_region_held3 (fun w' => w'.cell? ⟨g, (p - c) * 2, none⟩ = some (.slice (f (p - c)).1.1 (f (p - c)).1.2.1 (f (p - c)).1.2.2) ∧ w'.cell? ⟨g, (p - c) * 2 + 1, none⟩ = some (.int .i64 (f (p - c)).2.2) ∧ w'.cell? ⟨g, (c) * 2, none⟩ = some (.slice (f (c)).1.1 (f (c)).1.2.1 (f (c)).1.2.2) ∧ w'.cell? ⟨g, (c) * 2 + 1, none⟩ = some (.int .i64 (f (c)).2.2))
            (first | exact ⟨r0, r1, r2, r3⟩ | exact ⟨c0, c1, d0, d1⟩)
            (first
              | (go_at_call 45; refine HCM.out.mono ?_; rintro e w1 ⟨rfl, hb1⟩; have r0 := kept hb1 c0; have r1 := kept hb1 c1; have r2 := kept hb1 d0; have r3 := kept hb1 d1; have HB1 : Hid (Below wr.heap.size wr w1) := belowT ((Below.refl _ _).drew) hb1; clear hb1)
              | fail)
          all_goals (go_wp2_with fail; go_meet; exact ⟨rfl, HB1.out⟩)
        case rest =>
          as_aux_lemma =>
            obtain ⟨t, ht⟩ : ∃ t, (!decide (cc < 0)) = t := ⟨_, rfl⟩
            rw [ht] at hcut
            obtain ⟨rfl, hB1⟩ := hcut
            have hr1' := HRR.out.keep hB1
            have hgr1 : w.grownBy wc (some g) := World.grownBy.trans HGR.out (grown_of_below hB1 _)
            cases t
            · have hcc : cc < 0 := by simpa using ht
              clear ht
              have hl1 : ltI (f (p - c)) (f c) = true := by rw [HLT2.out]; simpa using hcc
              clear hcc
              have HR1 := Lib.hid hr1'
              have HGR1 := Lib.hid hgr1
              have HL1 := Lib.hid hl1
              clear hr1' hgr1 hl1
              clear hB1
              go_wp2_with fail
              go_roundg (c - s)
              case measure => have := HG.out; omega
              case rel => exact ⟨s, c, hs1, hsc, by omega, rfl, rfl, rfl, HR1.out, HGR1.out, HL.out, fun _ => HL1.out⟩
            · have hcc : ¬ cc < 0 := by simpa using ht
              clear ht
              have hl1 : ltI (f (p - (c + 1 - 1))) (f (c + 1 - 1)) = false := by rw [show c + 1 - 1 = c by omega, HLT2.out]; simpa using hcc
              clear hcc
              have HR1 := Lib.hid hr1'
              have HGR1 := Lib.hid hgr1
              have HL1 := Lib.hid hl1
              clear hr1' hgr1 hl1
              clear hB1
              go_wp2_with fail
              go_roundg (r - (c + 1))
              case measure => have := HG.out; omega
              case rel => exact ⟨c + 1, r, by omega, by omega, hr1, rfl, by go_num, rfl, HR1.out, HGR1.out, fun _ => HL1.out, HRT.out⟩
    · as_aux_lemma =>
        obtain rfl : s = r := by omega
        obtain ⟨e, he⟩ : ∃ e, e = mid + m - s := ⟨_, rfl⟩
        have heI : (mid : Int) + m - s = (e : Int) := by omega
        have hcut' := sym_cut HO.out (mid := mid) (s := s) (e := e) HS1.out HS2.out ham (by omega) (by omega) (by omega) (by omega) (by omega)
          (fun h1 h2 => by have := hl (by omega); rwa [show p - (s - 1) = e by omega] at this)
          (fun h1 h2 => by have := hrr (by omega); rwa [show p - s = e - 1 by omega] at this)
        have hwn := (rot_within f s m e (by omega) (by omega)).mono (show a ≤ s by omega) (show e ≤ b by omega)
        have hrot := fun (h1 : s < m) (h2 : m < e) => rotate_calls g cap N s m e (.func (.func 45) #[] #[]) f wr hr h1 h2 (by omega) hN
        have hrl := rot_left f m e
        have hrr' := rot_right f s m
        have hsm : s ≤ mid := by omega
        have hme : mid ≤ e := by omega
        have hsm' : s ≤ m := by omega
        have hem : m ≤ e := by omega
        have heb : e ≤ b := by omega
        have has : a ≤ s := by omega
        have hse : s + e = mid + m := by omega
        have HG := Lib.hid hg
        have HRR := Lib.hid hr
        have HGR := Lib.hid hgr
        have HL := Lib.hid hl
        have HRT := Lib.hid hrr
        have HGDR := Lib.hid hgdr
        have HE := Lib.hid he
        have HEI := Lib.hid heI
        have HCUT := Lib.hid hcut'
        have HWN := Lib.hid hwn
        have HROT := Lib.hid hrot
        have HRL := Lib.hid hrl
        have HRRR := Lib.hid hrr'
        have HSE := Lib.hid hse
        clear hg hr hgr hl hrr hgdr he heI hcut' hwn hrot hrl hrr' hse
        go_upto_region 39 with fail
        rw [HEI.out]
        obtain ⟨t, ht⟩ : ∃ t, (decide (s < m) && decide (m < e)) = t := ⟨_, rfl⟩
        have HTX := Lib.hid ht
        clear ht
        go_cut [185] (fun z wx => z = .bool t ∧ wx = wr)
        case first =>
          by_cases x1 : s < m
          · by_cases x2 : m < e
            · go_wp2_with fail
              go_meet
              exact ⟨by rw [← HTX.out]; simp [x1, x2], rfl⟩
            · go_wp2_with fail
              go_meet
              exact ⟨by rw [← HTX.out]; simp [x2], rfl⟩
          · go_wp2_with fail
            go_meet
            exact ⟨by rw [← HTX.out]; simp [x1], rfl⟩
        case rest =>
        obtain ⟨rfl, rfl⟩ := hcut
        obtain ⟨wr, rfl⟩ : ∃ wr : World, wr = wc := ⟨_, rfl⟩
        have ht := HTX.out
        clear HTX
        go_upto_if 185 with fail
        go_cut [] (fun wx => RowI wx g cap N (rot f s m e) ∧ PermF N f (rot f s m e) ∧ w.grownBy wx (some g))
        case first =>
          as_aux_lemma =>
            cases t
            · have hid : rot f s m e = f := by
                simp only [Bool.and_eq_false_iff, decide_eq_false_iff_not] at ht
                rcases ht with ht | ht
                · rw [show s = m by omega]; exact HRL.out
                · rw [show e = m by omega]; exact HRRR.out
              have HIDE := Lib.hid hid
              have HT := Lib.hid ht
              clear hid ht
              go_wp2_with fail
              go_meet
              rw [HIDE.out]
              exact ⟨HRR.out, PermF.refl _ _, HGR.out⟩
            · simp only [Bool.and_eq_true, decide_eq_true_eq] at ht
              have hro := HROT.out ht.1 ht.2
              have HRO := Lib.hid hro
              have HT := Lib.hid ht
              clear hro ht
              go_wp2_with (go_at_call 86; refine HRO.out.mono ?_; rintro e' w1 ⟨rfl, hr1, hp1, hg1⟩)
              go_meet
              exact ⟨hr1, hp1, World.grownBy.trans HGR.out hg1⟩
        case rest =>
          as_aux_lemma =>
            obtain ⟨hra, hpa, hga⟩ := hcut
            have hgda := HGD.out.keep HR.out hra hga HWN.out hb
            obtain ⟨wa, rfl⟩ : ∃ wa : World, wa = wc := ⟨_, rfl⟩
            obtain ⟨hf, hhf⟩ : ∃ hf, hf = rot f s m e := ⟨_, rfl⟩
            have hcuts := HCUT.out
            have hwnA := HWN.out
            rw [← hhf] at hra hpa hgda hcuts hwnA
            obtain ⟨q1, q2, q3, q4, q5⟩ := hcuts
            have hc1 := fun (h1 : a < s) (h2 : s < mid) => IH.out a s mid hf wa (by omega) h1 h2 (by omega) hra hgda q1 q2
            have HRA := Lib.hid hra
            have HPA := Lib.hid hpa
            have HGA := Lib.hid hga
            have HGDA := Lib.hid hgda
            have HHF := Lib.hid hhf
            have Q1 := Lib.hid q1
            have Q2 := Lib.hid q2
            have Q3 := Lib.hid q3
            have Q4 := Lib.hid q4
            have Q5 := Lib.hid q5
            have HC1 := Lib.hid hc1
            have HWNA := Lib.hid hwnA
            have HT0 := Lib.hid ht
            clear hra hpa hga hgda hhf q1 q2 q3 q4 q5 hc1 hwnA ht
            clear HRR HGR HL HRT HGDR HROT HRL HRRR HCUT HWN
            go_upto_region 41 with fail
            obtain ⟨t, ht⟩ : ∃ t, (decide (a < s) && decide (s < mid)) = t := ⟨_, rfl⟩
            have HTX := Lib.hid ht
            clear ht
            go_cut [199] (fun z wx => z = .bool t ∧ wx = wa)
            case first =>
              by_cases x1 : a < s
              · by_cases x2 : s < mid
                · go_wp2_with fail
                  go_meet
                  exact ⟨by rw [← HTX.out]; simp [x1, x2], rfl⟩
                · go_wp2_with fail
                  go_meet
                  exact ⟨by rw [← HTX.out]; simp [x2], rfl⟩
              · go_wp2_with fail
                go_meet
                exact ⟨by rw [← HTX.out]; simp [x1], rfl⟩
            case rest =>
            obtain ⟨rfl, rfl⟩ := hcut
            obtain ⟨wa, rfl⟩ : ∃ wa : World, wa = wc := ⟨_, rfl⟩
            have ht := HTX.out
            clear HTX
            go_upto_if 199 with fail
            go_cut [] (fun wx => ∃ f1, RowI wx g cap N f1 ∧ PermF N hf f1 ∧ Within a mid hf f1 ∧ SortedOn ltI f1 a mid ∧ wa.grownBy wx (some g))
            case first =>
              as_aux_lemma =>
                cases t
                · have hso : SortedOn ltI hf a mid := by
                    simp only [Bool.and_eq_false_iff, decide_eq_false_iff_not] at ht
                    rcases ht with ht | ht
                    · have := Q2.out; rwa [show s = a by omega] at this
                    · have := Q1.out; rwa [show s = mid by omega] at this
                  have HSO := Lib.hid hso
                  have HT := Lib.hid ht
                  clear hso ht
                  go_wp2_with fail
                  go_meet
                  exact ⟨hf, HRA.out, PermF.refl _ _, Within.refl _ _ _, HSO.out, World.grownBy.refl _ _⟩
                · simp only [Bool.and_eq_true, decide_eq_true_eq] at ht
                  have hro := HC1.out ht.1 ht.2
                  have HRO := Lib.hid hro
                  have HT := Lib.hid ht
                  clear hro ht
                  go_wp2_with (go_at_call 76; refine HRO.out.mono ?_; rintro e' w1 ⟨rfl, f1, s1, s2, s3, s4, s5⟩)
                  go_meet
                  exact ⟨f1, s1, s2, s3, s4, s5⟩
            case rest =>
              as_aux_lemma =>
                obtain ⟨f1, hr1, hp1, hw1, hs1, hg1⟩ := hcut
                have hgd1 := HGDA.out.keep HRA.out hr1 hg1 hw1 (by omega)
                obtain ⟨wb, rfl⟩ : ∃ wb : World, wb = wc := ⟨_, rfl⟩
                have q3' := Q3.out.off hw1 (.inr (Nat.le_refl _))
                have q4' := Q4.out.off hw1 (.inr hme)
                have hc2 := fun (h1 : mid < e) (h2 : e < b) => IH.out mid e b f1 wb (by omega) h1 h2 hb hr1 hgd1 q3' q4'
                have HR1 := Lib.hid hr1
                have HP1 := Lib.hid hp1
                have HW1 := Lib.hid hw1
                have HSO1 := Lib.hid hs1
                have HG1 := Lib.hid hg1
                have HGD1 := Lib.hid hgd1
                have Q3' := Lib.hid q3'
                have Q4' := Lib.hid q4'
                have HC2 := Lib.hid hc2
                have HT1 := Lib.hid ht
                clear hr1 hp1 hw1 hs1 hg1 hgd1 q3' q4' hc2 ht
                go_upto_region 43 with fail
                obtain ⟨t, ht⟩ : ∃ t, (decide (mid < e) && decide (e < b)) = t := ⟨_, rfl⟩
                have HTX := Lib.hid ht
                clear ht
                go_cut [213] (fun z wx => z = .bool t ∧ wx = wb)
                case first =>
                  by_cases x1 : mid < e
                  · by_cases x2 : e < b
                    · go_wp2_with fail
                      go_meet
                      exact ⟨by rw [← HTX.out]; simp [x1, x2], rfl⟩
                    · go_wp2_with fail
                      go_meet
                      exact ⟨by rw [← HTX.out]; simp [x2], rfl⟩
                  · go_wp2_with fail
                    go_meet
                    exact ⟨by rw [← HTX.out]; simp [x1], rfl⟩
                case rest =>
                obtain ⟨rfl, rfl⟩ := hcut
                obtain ⟨wb, rfl⟩ : ∃ wb : World, wb = wc := ⟨_, rfl⟩
                have ht := HTX.out
                clear HTX
                cases t
                · have hso : SortedOn ltI f1 mid b := by
                    simp only [Bool.and_eq_false_iff, decide_eq_false_iff_not] at ht
                    rcases ht with ht | ht
                    · have := Q4'.out; rwa [show e = mid by omega] at this
                    · have := Q3'.out; rwa [show e = b by omega] at this
                  have hfin := sym_join HW1.out (Within.refl mid b f1) HSO1.out hso Q5.out
                  have HSO := Lib.hid hso
                  have HT := Lib.hid ht
                  have HFIN := Lib.hid hfin
                  clear hso ht hfin
                  go_wp2_with fail
                  go_end0
                  exact ⟨rfl, f1, HR1.out, PermF.trans HPA.out HP1.out, Within.trans HWNA.out (HW1.out.mono (Nat.le_refl _) (by omega)), HFIN.out, World.grownBy.trans HGA.out HG1.out⟩
                · simp only [Bool.and_eq_true, decide_eq_true_eq] at ht
                  have hro := HC2.out ht.1 ht.2
                  have HRO := Lib.hid hro
                  have HT := Lib.hid ht
                  clear hro ht
                  go_wp2_with (go_at_call 76; refine HRO.out.mono ?_; rintro e' w1 ⟨rfl, f2, s1, s2, s3, s4, s5⟩)
                  go_end0
                  exact ⟨rfl, f2, s1, PermF.trans HPA.out (PermF.trans HP1.out s2), Within.trans HWNA.out (Within.trans (HW1.out.mono (Nat.le_refl _) (by omega)) (s3.mono (by omega) (Nat.le_refl _))), sym_join HW1.out s3 HSO1.out s4 Q5.out, World.grownBy.trans HGA.out (World.grownBy.trans HG1.out s5)⟩
end Go.Proofs.YticdfbhbbapbdaaDoor
/- slices.stableCmpFunc, slices.SortStableFunc over nogoods. -/
namespace Go.Proofs.YticdfbhbbapbdaaDoor
open Go.RowKit

theorem sym_calls (o : Ord ltI) (g cap N : Nat) (hN : N ≤ 100000) : ∀ (d a m b : Nat) (f : Nat → Item) (w : World), b - a ≤ d → a < m → m < b → b ≤ N → RowI w g cap N f → GoodI w g N f → SortedOn ltI f a m → SortedOn ltI f m b →
    Calls Tryd.prog 76 (symArgs g cap N a m b) w fun e w' => e = .returned (.tuple #[]) ∧ Sorted w w' g cap N a b f
  | 0, a, m, b, f, w, hd, ham, hmb, _, _, _, _, _ => by omega
  | d + 1, a, m, b, f, w, hd, ham, hmb, hb, hr, hg, h1, h2 => by
    by_cases e1 : m = a + 1
    · subst e1
      have := sym_left o g cap N a b f w hr hg hmb hb hN h2
      rw [show (a : Int) + 1 = ((a + 1 : Nat) : Int) by omega] at this
      exact this
    · by_cases e2 : b = m + 1
      · subst e2
        have := sym_right o g cap N a m f w hr hg (by omega) hb hN h1
        rw [show (m : Int) + 1 = ((m + 1 : Nat) : Int) by omega] at this
        exact this
      · have ih : ∀ (a' m' b' : Nat) (f' : Nat → Item) (w' : World), b' - a' < b - a → a' < m' → m' < b' → b' ≤ N → RowI w' g cap N f' → GoodI w' g N f' → SortedOn ltI f' a' m' → SortedOn ltI f' m' b' → Calls Tryd.prog 76 (symArgs g cap N a' m' b') w' fun e w'' => e = .returned (.tuple #[]) ∧ Sorted w' w'' g cap N a' b' f' :=
          fun a' m' b' f' w' hlt => sym_calls o g cap N hN d a' m' b' f' w' (by omega)
        by_cases hmm : (a + b) / 2 < m
        · exact sym_gen1 o g cap N a m b f w hr hg (by omega) (by omega) hb hN h1 h2 hmm ih
        · exact sym_gen2 o g cap N a m b f w hr hg (by omega) (by omega) hb hN h1 h2 hmm ih

/-- blocks of a size are in order, from a place on -/
def Blk (f : Nat → Item) (N bs lo : Nat) : Prop := ∀ u x, x = u * bs → lo ≤ x → x < N → SortedOn ltI f x (min (x + bs) N)
theorem mult_gap {u v c : Nat} (h : u * c < v * c) : u * c + c ≤ v * c := by
  have h1 : u < v := Nat.lt_of_mul_lt_mul_right h
  have h2 := Nat.mul_le_mul_right c (show u + 1 ≤ v from h1)
  rwa [Nat.add_mul, Nat.one_mul] at h2
theorem blk_merge {f f' : Nat → Item} {N bs v : Nat} (hb0 : 0 < bs) (h : Blk f N bs (v * (2 * bs))) (hw : Within (v * (2 * bs)) (v * (2 * bs) + 2 * bs) f f') : Blk f' N bs ((v + 1) * (2 * bs)) := by
  intro u x hx hlo hxN
  have e : (v + 1) * (2 * bs) = v * (2 * bs) + 2 * bs := by rw [Nat.add_mul, Nat.one_mul]
  exact (h u x hx (by omega) hxN).off hw (.inr (by omega))
/-- finished blocks of twice the size, below a place -/
def Fin2 (f : Nat → Item) (c hi : Nat) : Prop := ∀ u x, x = u * c → x + c ≤ hi → SortedOn ltI f x (x + c)
theorem fin_step {f f' : Nat → Item} {c v : Nat} (h : Fin2 f c (v * c)) (hw : Within (v * c) (v * c + c) f f') (hs : SortedOn ltI f' (v * c) (v * c + c)) : Fin2 f' c ((v + 1) * c) := by
  intro u x hx hhi
  have e : (v + 1) * c = v * c + c := by rw [Nat.add_mul, Nat.one_mul]
  by_cases hlt : x + c ≤ v * c
  · exact (h u x hx hlt).off hw (.inl hlt)
  · by_cases hc : c = 0
    · subst hc
      exact SortedOn.small (by omega)
    · subst hx
      have huv : ¬ u * c < v * c := fun h1 => hlt (mult_gap h1)
      have hvu : ¬ v * c < u * c := fun h1 => by have := mult_gap h1; omega
      have e2 : u * c = v * c := by omega
      rw [e2]
      exact hs
theorem blk_done {f : Nat → Item} {N c v : Nat} (h : Fin2 f c (v * c)) (hs : v * c < N → SortedOn ltI f (v * c) N) (hN : N < v * c + c) : Blk f N c 0 := by
  intro u x hx _ hxN
  by_cases hlt : x + c ≤ v * c
  · exact (h u x hx hlt).sub (Nat.le_refl _) (Nat.min_le_left _ _)
  · subst hx
    have huv : ¬ u * c < v * c := fun h1 => hlt (mult_gap h1)
    have hvu : ¬ v * c < u * c := fun h1 => by have := mult_gap h1; omega
    have e2 : u * c = v * c := by omega
    rw [e2] at hxN ⊢
    exact (hs hxN).sub (Nat.le_refl _) (Nat.min_le_right _ _)

set_option maxHeartbeats 4000000 in
set_option maxRecDepth 100000 in
theorem stable_calls (o : Ord ltI) (g cap N : Nat) (f : Nat → Item) (w : World) (h : RowI w g cap N f) (hgd : GoodI w g N f) (hN : N ≤ 100000) :
    Calls Tryd.prog 62 #[.slice (some ⟨g, 0, none⟩) N cap, .int .i64 N, cmpV] w fun e w' => e = .returned (.tuple #[]) ∧ Sorted w w' g cap N 0 N f := by
  have HR := Lib.hid h
  have HGD := Lib.hid hgd
  have HO := Lib.hid o
  clear h hgd o
  unfold cmpV
  go_enter Tryd.func62, Tryd.ntmps62
  go_wp2
  go_loopg [7, 8] N (fun gh av bv wr => ∃ (t : Nat) (f' : Nat → Item), 20 * t ≤ N ∧ gh = N - 20 * t ∧ av = .int .i64 ((20 * t : Nat) : Int) ∧ bv = .int .i64 ((20 * t + 20 : Nat) : Int) ∧ RowI wr g cap N f' ∧ PermF N f f' ∧ Within 0 N f f' ∧ w.grownBy wr (some g) ∧ ∀ u, u < t → SortedOn ltI f' (20 * u) (20 * u + 20))
  case atStart => exact ⟨0, f, by omega, by omega, by go_num, by go_num, HR.out, PermF.refl _ _, Within.refl _ _ _, World.grownBy.refl _ _, fun u hu => by omega⟩
  case round =>
    obtain ⟨t, f', ht, hg, rfl, rfl, hr, hp, hwi, hgr, hbl⟩ := hrel
    have hgd1 := HGD.out.keep HR.out hr hgr hwi (Nat.le_refl _)
    by_cases hlt : 20 * t + 20 ≤ N
    · have hins := insertion_calls HO.out g cap N (20 * t) (20 * t + 20) f' wr hr hgd1 (by omega) hlt hN
      unfold cmpV at hins
      have hle : ((20 * t + 20 : Nat) : Int) ≤ N := by omega
      have e1 : ((20 * t + 20 : Nat) : Int) + 20 = ((20 * (t + 1) + 20 : Nat) : Int) := by omega
      have e2 : ((20 * t + 20 : Nat) : Int) = ((20 * (t + 1) : Nat) : Int) := by omega
      obtain ⟨A, hA⟩ : ∃ A : Nat, A = 20 * t := ⟨_, rfl⟩
      obtain ⟨B, hB⟩ : ∃ B : Nat, B = 20 * t + 20 := ⟨_, rfl⟩
      rw [← hB] at e1 e2 hle hins ⊢
      rw [← hA] at hins ⊢
      have hbN : B ≤ 100000 := by omega
      have hbN2 : B ≤ N := by omega
      have HG := Lib.hid hg
      have HRR := Lib.hid hr
      have HP := Lib.hid hp
      have HWI := Lib.hid hwi
      have HGR := Lib.hid hgr
      have HBL := Lib.hid hbl
      have HGD1 := Lib.hid hgd1
      have HINS := Lib.hid hins
      have E1 := Lib.hid e1
      have E2 := Lib.hid e2
      have HA := Lib.hid hA
      have HB := Lib.hid hB
      clear hg hr hp hwi hgr hbl hgd1 hins e1 e2 hA hB
      go_wp2_with (go_at_call 75; refine HINS.out.mono ?_; rintro e w1 ⟨rfl, f1, s1, s2, s3, s4, s5⟩)
      go_roundg (N - 20 * (t + 1))
      case measure => have := HG.out; omega
      case rel =>
        have hA := HA.out
        have hB := HB.out
        subst hA hB
        refine ⟨t + 1, f1, by omega, rfl, by rw [E2.out], by rw [← E1.out], s1, PermF.trans HP.out s2, Within.trans HWI.out (s3.mono (Nat.zero_le _) (by omega)), World.grownBy.trans HGR.out s5, fun u hu => ?_⟩
        by_cases hut : u = t
        · subst hut; exact s4
        · exact (HBL.out u (by omega)).off s3 (.inl (by omega))
    · have hins := insertion_calls HO.out g cap N (20 * t) N f' wr hr hgd1 ht (Nat.le_refl _) hN
      unfold cmpV at hins
      have hle : ¬ ((20 * t + 20 : Nat) : Int) ≤ N := by omega
      obtain ⟨A, hA⟩ : ∃ A : Nat, A = 20 * t := ⟨_, rfl⟩
      obtain ⟨B, hB⟩ : ∃ B : Nat, B = 20 * t + 20 := ⟨_, rfl⟩
      rw [← hB] at hle ⊢
      rw [← hA] at hins ⊢
      have hbN2 : ¬ B ≤ N := by omega
      have HG := Lib.hid hg
      have HRR := Lib.hid hr
      have HP := Lib.hid hp
      have HWI := Lib.hid hwi
      have HGR := Lib.hid hgr
      have HBL := Lib.hid hbl
      have HGD1 := Lib.hid hgd1
      have HINS := Lib.hid hins
      have HA := Lib.hid hA
      have HB := Lib.hid hB
      clear hg hr hp hwi hgr hbl hgd1 hins hA hB
      go_wp2_with (go_at_call 75; refine HINS.out.mono ?_; rintro e w1 ⟨rfl, f1, s1, s2, s3, s4, s5⟩)
      have hblk : Blk f1 N 20 0 := by
        have hA := HA.out
        refine blk_done (v := t) (fun u x hx hhi => ?_) (fun _ => ?_) (by omega)
        · exact ((HBL.out u (by omega)).off s3 (.inl (by omega))) |> fun h => by rw [hx, show u * 20 = 20 * u by omega]; exact h
        · rw [show t * 20 = A by omega]; exact s4
      have hp1 := PermF.trans HP.out s2
      have hw1 := Within.trans HWI.out (s3.mono (Nat.zero_le _) (Nat.le_refl _))
      have hg1 := World.grownBy.trans HGR.out s5
      have S1 := Lib.hid s1
      have HBLK := Lib.hid hblk
      have HP1 := Lib.hid hp1
      have HW1 := Lib.hid hw1
      have HG1 := Lib.hid hg1
      clear s1 hblk hp1 hw1 hg1
      clear s2 s3 s4 s5 HBL HWI HGR HP HRR HGD1 HINS HG HA HB hbN2 hle
      go_loopg [6, 7, 8, 9] N (fun gh bsv av bv mv wr => ∃ (bs : Nat) (f' : Nat → Item), 20 ≤ bs ∧ bs ≤ 200000 ∧ gh = N - (bs - 20) ∧ bsv = .int .i64 bs ∧ RowI wr g cap N f' ∧ PermF N f f' ∧ Within 0 N f f' ∧ w.grownBy wr (some g) ∧ Blk f' N bs 0)
      case atStart => exact ⟨20, f1, by omega, by omega, by omega, by go_num, S1.out, HP1.out, HW1.out, HG1.out, HBLK.out⟩
      case round =>
        obtain ⟨bs, f2, hbs1, hbs2, hg, rfl, hr, hp, hwi, hgr, hbl⟩ := hrel
        clear S1 HP1 HW1 HG1 HBLK
        by_cases hlt2 : bs < N
        · obtain ⟨B2, hB2⟩ : ∃ B2, B2 = 2 * bs := ⟨_, rfl⟩
          have eB : (2 : Int) * bs = (B2 : Int) := by omega
          have eB' : (bs : Int) * 2 = (B2 : Int) := by omega
          have hB2a : 2 * bs ≤ B2 := by omega
          have hB2b : B2 ≤ 2 * bs := by omega
          have hblB : Blk f2 N bs (0 * B2) := by rw [Nat.zero_mul]; exact hbl
          have HG := Lib.hid hg
          have HRR := Lib.hid hr
          have HP := Lib.hid hp
          have HWI := Lib.hid hwi
          have HGR := Lib.hid hgr
          have HBL := Lib.hid hbl
          have HBLB := Lib.hid hblB
          have EB := Lib.hid eB
          have EB' := Lib.hid eB'
          have HB2 := Lib.hid hB2
          clear hg hr hp hwi hgr hbl hblB eB eB' hB2
          go_wp2_with fail
          rw [EB.out]
          go_loopg [7, 8] N (fun gh av bv wr => ∃ (v A : Nat) (f3 : Nat → Item), A = v * B2 ∧ A ≤ N ∧ gh = N - A ∧ av = .int .i64 A ∧ bv = .int .i64 ((A + B2 : Nat) : Int) ∧ RowI wr g cap N f3 ∧ PermF N f f3 ∧ Within 0 N f f3 ∧ w.grownBy wr (some g) ∧ Fin2 f3 B2 A ∧ Blk f3 N bs A)
          case atStart => exact ⟨0, 0, f2, by omega, by omega, by omega, by go_num, by rw [Nat.zero_add], HRR.out, HP.out, HWI.out, HGR.out, fun u x hx hh => by omega, HBL.out⟩
          case round =>
            obtain ⟨v, A, f3, hA, hAN, hgA, rfl, rfl, hr3, hp3, hw3, hgr3, hfi, hbl3⟩ := hrel
            have hgd3 := HGD.out.keep HR.out hr3 hgr3 hw3 (Nat.le_refl _)
            have hB2 := HB2.out
            have eA1 : A = (2 * v) * bs := by rw [hA, hB2, Nat.mul_comm 2 v, Nat.mul_assoc]
            have eA2 : A + bs = (2 * v + 1) * bs := by rw [Nat.add_mul, Nat.one_mul, ← eA1]
            clear HRR HP HWI HGR HBL HBLB
            have eAb : (A : Int) + bs = ((A + bs : Nat) : Int) := by omega
            by_cases hin : A + B2 ≤ N
            · have s1 : SortedOn ltI f3 A (A + bs) := by have := hbl3 (2 * v) A eA1 (Nat.le_refl _) (by omega); rwa [show min (A + bs) N = A + bs by omega] at this
              have s2 : SortedOn ltI f3 (A + bs) (A + B2) := by have := hbl3 (2 * v + 1) (A + bs) eA2 (by omega) (by omega); rwa [show min (A + bs + bs) N = A + B2 by omega] at this
              have hsy := sym_calls HO.out g cap N hN N A (A + bs) (A + B2) f3 wr (by omega) (by omega) (by omega) hin hr3 hgd3 s1 s2
              unfold symArgs cmpV at hsy
              have hinI : ((A + B2 : Nat) : Int) ≤ N := by omega
              have eN : ((A + B2 : Nat) : Int) + B2 = ((A + B2 + B2 : Nat) : Int) := by omega
              obtain ⟨BB, hBB⟩ : ∃ BB : Nat, BB = A + B2 := ⟨_, rfl⟩
              rw [← hBB] at hsy hinI eN hin ⊢
              have hBB1 : BB ≤ A + B2 := by omega
              have hBB2 : A + B2 ≤ BB := by omega
              have HGA := Lib.hid hgA
              have HR3 := Lib.hid hr3
              have HP3 := Lib.hid hp3
              have HW3 := Lib.hid hw3
              have HGR3 := Lib.hid hgr3
              have HFI := Lib.hid hfi
              have HBL3 := Lib.hid hbl3
              have HGD3 := Lib.hid hgd3
              have HA := Lib.hid hA
              have HB2' := Lib.hid hB2
              have EA1 := Lib.hid eA1
              have EA2 := Lib.hid eA2
              have EAB := Lib.hid eAb
              have SS1 := Lib.hid s1
              have SS2 := Lib.hid s2
              have HSY := Lib.hid hsy
              have EN := Lib.hid eN
              have HBB := Lib.hid hBB
              clear hgA hr3 hp3 hw3 hgr3 hfi hbl3 hgd3 hA hB2 eA1 eA2 eAb s1 s2 hsy eN hBB
              go_wp2_with (first
                | (go_at_call 76; rw [EAB.out]; refine HSY.out.mono ?_; rintro e w1 ⟨rfl, f4, z1, z2, z3, z4, z5⟩))
              go_roundg (N - BB)
              case measure => have := HGA.out; omega
              case rel =>
                have hA := HA.out
                have hBB := HBB.out
                have hB2 := HB2'.out
                have e1 : (v + 1) * B2 = BB := by rw [Nat.add_mul, Nat.one_mul, ← hA]; omega
                have hw' : Within (v * B2) (v * B2 + B2) f3 f4 := by rw [← hA, ← hBB]; exact z3
                have hfi' : Fin2 f4 B2 BB := by rw [← e1]; exact fin_step (by rw [← hA]; exact HFI.out) hw' (by rw [← hA, ← hBB]; exact z4)
                have hbl' : Blk f4 N bs BB := by
                  rw [← e1, hB2]
                  exact blk_merge (by omega) (by rw [← hB2, ← hA]; exact HBL3.out) (by rw [← hB2]; exact hw')
                refine ⟨v + 1, BB, f4, e1.symm, hin, rfl, rfl, ?_, z1, PermF.trans HP3.out z2, Within.trans HW3.out (z3.mono (Nat.zero_le _) hin), World.grownBy.trans HGR3.out z5, hfi', hbl'⟩
                rw [← show ((BB : Int)) + B2 = ((BB + B2 : Nat) : Int) by omega, EB.out]
            · have hinI : ¬ ((A + B2 : Nat) : Int) ≤ N := by omega
              have hinN : N < A + B2 := by omega
              obtain ⟨BB, hBB⟩ : ∃ BB : Nat, BB = A + B2 := ⟨_, rfl⟩
              rw [← hBB] at hinI ⊢
              have hinB : ¬ BB ≤ N := by omega
              by_cases hm : A + bs < N
              · have s1 : SortedOn ltI f3 A (A + bs) := by have := hbl3 (2 * v) A eA1 (Nat.le_refl _) (by omega); rwa [show min (A + bs) N = A + bs by omega] at this
                have s2 : SortedOn ltI f3 (A + bs) N := by have := hbl3 (2 * v + 1) (A + bs) eA2 (by omega) (by omega); rwa [show min (A + bs + bs) N = N by omega] at this
                have hsy := sym_calls HO.out g cap N hN N A (A + bs) N f3 wr (by omega) (by omega) hm (Nat.le_refl _) hr3 hgd3 s1 s2
                unfold symArgs cmpV at hsy
                have hmI : (A : Int) + bs < N := by omega
                have HGA := Lib.hid hgA
                have HR3 := Lib.hid hr3
                have HP3 := Lib.hid hp3
                have HW3 := Lib.hid hw3
                have HGR3 := Lib.hid hgr3
                have HFI := Lib.hid hfi
                have HBL3 := Lib.hid hbl3
                have HGD3 := Lib.hid hgd3
                have HA := Lib.hid hA
                have HB2' := Lib.hid hB2
                have EA1 := Lib.hid eA1
                have EA2 := Lib.hid eA2
                have EAB := Lib.hid eAb
                have SS1 := Lib.hid s1
                have SS2 := Lib.hid s2
                have HSY := Lib.hid hsy
                have HBB := Lib.hid hBB
                clear hgA hr3 hp3 hw3 hgr3 hfi hbl3 hgd3 hA hB2 eA1 eA2 eAb s1 s2 hsy hBB
                go_wp2_with (first
                  | (go_at_call 76; rw [EAB.out]; refine HSY.out.mono ?_; rintro e w1 ⟨rfl, f4, z1, z2, z3, z4, z5⟩))
                go_roundg (N - (B2 - 20))
                case measure => have := HG.out; omega
                case rel =>
                  have hA := HA.out
                  have hfi' : Fin2 f4 B2 (v * B2) := fun u x hx hh => (HFI.out u x hx (by rw [hA]; exact hh)).off z3 (.inl (by rw [hA]; exact hh))
                  refine ⟨B2, f4, by omega, by omega, rfl, ?_, z1, PermF.trans HP3.out z2, Within.trans HW3.out (z3.mono (Nat.zero_le _) (Nat.le_refl _)), World.grownBy.trans HGR3.out z5, blk_done hfi' (fun _ => by rw [← hA]; exact z4) (by rw [← hA]; exact hinN)⟩
                  first | rfl | (rw [EB'.out]) | go_num
              · have s1 : A < N → SortedOn ltI f3 A N := fun hAl => by have := hbl3 (2 * v) A eA1 (Nat.le_refl _) hAl; rwa [show min (A + bs) N = N by omega] at this
                have hmI : ¬ (A : Int) + bs < N := by omega
                have hfi' : Fin2 f3 B2 (v * B2) := by rw [← hA]; exact hfi
                have hblk := blk_done hfi' (fun h => by rw [← hA] at h ⊢; exact s1 h) (by rw [← hA]; exact hinN)
                have HGA := Lib.hid hgA
                have HR3 := Lib.hid hr3
                have HP3 := Lib.hid hp3
                have HW3 := Lib.hid hw3
                have HGR3 := Lib.hid hgr3
                have HFI := Lib.hid hfi
                have HBL3 := Lib.hid hbl3
                have HGD3 := Lib.hid hgd3
                have HA := Lib.hid hA
                have HB2' := Lib.hid hB2
                have EA1 := Lib.hid eA1
                have EA2 := Lib.hid eA2
                have EAB := Lib.hid eAb
                have SS1 := Lib.hid s1
                have HBB := Lib.hid hBB
                have HFI' := Lib.hid hfi'
                have HBLK := Lib.hid hblk
                clear hgA hr3 hp3 hw3 hgr3 hfi hbl3 hgd3 hA hB2 eA1 eA2 eAb s1 hBB hfi' hblk
                go_wp2_with fail
                go_roundg (N - (B2 - 20))
                case measure => have := HG.out; omega
                case rel =>
                  refine ⟨B2, f3, by omega, by omega, rfl, ?_, HR3.out, HP3.out, HW3.out, HGR3.out, HBLK.out⟩
                  first | rfl | (rw [EB'.out]) | go_num
        · have hfin : SortedOn ltI f2 0 N := by
            by_cases hN0 : N = 0
            · exact SortedOn.small (by omega)
            · have := hbl 0 0 (by omega) (by omega) (by omega)
              rwa [show min (0 + bs) N = N by omega] at this
          have HG := Lib.hid hg
          have HRR := Lib.hid hr
          have HP := Lib.hid hp
          have HWI := Lib.hid hwi
          have HGR := Lib.hid hgr
          have HBL := Lib.hid hbl
          have HFIN := Lib.hid hfin
          clear hg hr hp hwi hgr hbl hfin
          go_wp2_with fail
          go_end0
          exact ⟨rfl, f2, HRR.out, HP.out, HWI.out, HFIN.out, HGR.out⟩

theorem sortStable_calls (o : Ord ltI) (g cap N : Nat) (f : Nat → Item) (w : World) (h : RowI w g cap N f) (hgd : GoodI w g N f) (hN : N ≤ 100000) :
    Calls Tryd.prog 44 #[.slice (some ⟨g, 0, none⟩) N cap, cmpV] w fun e w' => e = .returned (.tuple #[]) ∧ Sorted w w' g cap N 0 N f := by
  have h1 := stable_calls o g cap N f w h hgd hN
  unfold cmpV at h1 ⊢
  have H1 := Lib.hid h1
  have HR := Lib.hid h
  have HGD := Lib.hid hgd
  have HO := Lib.hid o
  clear h1 h hgd o
  go_enter Tryd.func44, Tryd.ntmps44
  go_wp2_with (go_at_call 62; refine H1.out.mono ?_; rintro e w1 ⟨rfl, s1⟩)
  go_end0
  exact ⟨rfl, s1⟩

/-- the order of nogoods is an order -/
theorem cmpFact_lt {x y : Fact} : cmpFact x y < 0 ↔ x.1 < y.1 ∨ (x.1 = y.1 ∧ x.2 < y.2) := by
  unfold cmpFact
  by_cases h : cmpI x.1 y.1 = 0
  · rw [if_neg (by simpa using h), cmpI_lt]
    have := cmpI_zero.1 h
    omega
  · rw [if_pos h, cmpI_lt]
    have : x.1 ≠ y.1 := fun e => h (cmpI_zero.2 e)
    omega
theorem cmpFact_zero {x y : Fact} : cmpFact x y = 0 ↔ x = y := by
  unfold cmpFact
  by_cases h : cmpI x.1 y.1 = 0
  · rw [if_neg (by simpa using h), cmpI_zero]
    have := cmpI_zero.1 h
    exact ⟨fun e => Prod.ext this e, fun e => by rw [e]⟩
  · rw [if_pos h]
    exact ⟨fun e => absurd e h, fun e => absurd (cmpI_zero.2 (congrArg Prod.fst e)) h⟩
def LtL : List Fact → List Fact → Prop
  | [], [] => False
  | [], _ :: _ => True
  | _ :: _, [] => False
  | x :: r, y :: s => (x.1 < y.1 ∨ (x.1 = y.1 ∧ x.2 < y.2)) ∨ (x = y ∧ LtL r s)
theorem cmpL_lt : ∀ (a b : List Fact), cmpL a b < 0 ↔ LtL a b
  | [], [] => by simp [cmpL, LtL]
  | [], _ :: _ => by simp [cmpL, LtL]
  | _ :: _, [] => by simp [cmpL, LtL]
  | x :: r, y :: s => by
    rw [cmpL, LtL]
    by_cases h : cmpFact x y = 0
    · rw [if_neg (by simpa using h), cmpL_lt r s]
      have := cmpFact_zero.1 h
      subst this
      simp
    · rw [if_pos h, cmpFact_lt]
      have : x ≠ y := fun e => h (cmpFact_zero.2 e)
      simp [this]
theorem cmpL_zero : ∀ (a b : List Fact), cmpL a b = 0 ↔ a = b
  | [], [] => by simp [cmpL]
  | [], _ :: _ => by simp [cmpL]
  | _ :: _, [] => by simp [cmpL]
  | x :: r, y :: s => by
    rw [cmpL]
    by_cases h : cmpFact x y = 0
    · rw [if_neg (by simpa using h), cmpL_zero r s]
      have := cmpFact_zero.1 h
      subst this
      simp
    · rw [if_pos h]
      have : x ≠ y := fun e => h (cmpFact_zero.2 e)
      simp [h, this]
theorem LtL_trans : ∀ (a b c : List Fact), LtL a b → LtL b c → LtL a c
  | [], [], _, h, _ => by cases h
  | [], _ :: _, [], _, h => by cases h
  | [], _ :: _, _ :: _, _, _ => trivial
  | _ :: _, [], _, h, _ => by cases h
  | _ :: _, _ :: _, [], _, h => by cases h
  | x :: r, y :: s, z :: t, h1, h2 => by
    rw [LtL] at h1 h2 ⊢
    rcases h1 with h1 | ⟨rfl, h1⟩
    · rcases h2 with h2 | ⟨rfl, h2⟩
      · left; omega
      · left; exact h1
    · rcases h2 with h2 | ⟨rfl, h2⟩
      · left; exact h2
      · right; exact ⟨rfl, LtL_trans r s t h1 h2⟩
theorem LtL_tri : ∀ (a b : List Fact), LtL a b ∨ a = b ∨ LtL b a
  | [], [] => .inr (.inl rfl)
  | [], _ :: _ => .inl trivial
  | _ :: _, [] => .inr (.inr trivial)
  | x :: r, y :: s => by
    rw [LtL, LtL]
    by_cases h : x = y
    · subst h
      rcases LtL_tri r s with h | h | h
      · exact .inl (.inr ⟨rfl, h⟩)
      · exact .inr (.inl (by rw [h]))
      · exact .inr (.inr (.inr ⟨rfl, h⟩))
    · have : x.1 ≠ y.1 ∨ x.2 ≠ y.2 := by
        rcases Decidable.em (x.1 = y.1) with e | e
        · exact .inr (fun e2 => h (Prod.ext e e2))
        · exact .inl e
      have : (x.1 < y.1 ∨ (x.1 = y.1 ∧ x.2 < y.2)) ∨ (y.1 < x.1 ∨ (y.1 = x.1 ∧ y.2 < x.2)) := by omega
      rcases this with h | h
      · exact .inl (.inl h)
      · exact .inr (.inr (.inl h))
theorem LtL_irr : ∀ a : List Fact, ¬ LtL a a
  | [], h => by cases h
  | x :: r, h => by
    rw [LtL] at h
    rcases h with h | ⟨_, h⟩
    · omega
    · exact LtL_irr r h
def LtN (x y : Nogood) : Prop := x.2 < y.2 ∨ (x.2 = y.2 ∧ LtL x.1 y.1)
theorem cmpN_lt (x y : Nogood) : cmpN x y < 0 ↔ LtN x y := by
  unfold cmpN LtN
  by_cases h : cmpI x.2 y.2 = 0
  · rw [if_neg (by simpa using h), cmpL_lt]
    have := cmpI_zero.1 h
    constructor
    · exact fun h => .inr ⟨this, h⟩
    · rintro (h | ⟨_, h⟩)
      · omega
      · exact h
  · rw [if_pos h, cmpI_lt]
    have : x.2 ≠ y.2 := fun e => h (cmpI_zero.2 e)
    constructor
    · exact fun h => .inl h
    · rintro (h | ⟨h, _⟩)
      · exact h
      · exact absurd h this
theorem LtN_trans {x y z : Nogood} (a : LtN x y) (b : LtN y z) : LtN x z := by
  unfold LtN at *
  rcases a with a | ⟨a, a'⟩ <;> rcases b with b | ⟨b, b'⟩
  · left; omega
  · left; omega
  · left; omega
  · right; exact ⟨by omega, LtL_trans _ _ _ a' b'⟩
theorem LtN_tri (x y : Nogood) : LtN x y ∨ x = y ∨ LtN y x := by
  unfold LtN
  rcases Int.lt_trichotomy x.2 y.2 with h | h | h
  · exact .inl (.inl h)
  · rcases LtL_tri x.1 y.1 with h' | h' | h'
    · exact .inl (.inr ⟨h, h'⟩)
    · exact .inr (.inl (Prod.ext h' h))
    · exact .inr (.inr (.inr ⟨h.symm, h'⟩))
  · exact .inr (.inr (.inl h))
theorem LtN_irr (x : Nogood) : ¬ LtN x x := by
  rintro (h | ⟨_, h⟩)
  · omega
  · exact LtL_irr _ h
/-- not above: below or equal -/
theorem leN_iff (x y : Nogood) : ¬ LtN y x ↔ LtN x y ∨ x = y := by
  constructor
  · intro h
    rcases LtN_tri x y with h' | h' | h'
    · exact .inl h'
    · exact .inr h'
    · exact absurd h' h
  · rintro (h | rfl) h'
    · exact LtN_irr _ (LtN_trans h h')
    · exact LtN_irr _ h'
theorem leI_iff (x y : Item) : leB ltI x y ↔ ¬ LtN y.2 x.2 := by
  unfold leB ltI
  rw [decide_eq_false_iff_not, cmpN_lt]
theorem ordI : Ord ltI := by
  constructor
  · intro x y z h1 h2
    rw [leI_iff, leN_iff] at *
    rcases h1 with h1 | h1 <;> rcases h2 with h2 | h2
    · exact .inl (LtN_trans h1 h2)
    · exact .inl (by rw [← h2]; exact h1)
    · exact .inl (by rw [h1]; exact h2)
    · exact .inr (by rw [h1, h2])
  · intro x y h
    rw [leI_iff, leN_iff]
    left
    unfold ltI at h
    rw [decide_eq_true_eq, cmpN_lt] at h
    exact h
end Go.Proofs.YticdfbhbbapbdaaDoor
/- slices.Clone over facts. -/
namespace Go.Proofs.YticdfbhbbapbdaaDoor
open Go.RowKit

set_option maxHeartbeats 1000000 in
theorem cloneF_calls (v : Value) (l : List Fact) (w : World) (hv : FactsAt w v l) :
    Calls Tryd.prog 61 #[v] w fun e w' => ∃ v', e = .returned v' ∧ OwnF w' w.heap.size v' l ∧ Below w.heap.size w w' := by
  obtain ⟨A, n, c, rfl, hn, hm⟩ := hv.form
  obtain ⟨i0, hi0, hz0, hz1, hz2⟩ := info_parts factInfo
  have hroom : n * 16 ≤ 140737488355328 := by obtain ⟨_, _, hv', hl, _⟩ := id hv; injection hv' with _ h2 _; omega
  rcases A with _ | ad
  · have hl0 : l = [] := by
      cases l with
      | nil => rfl
      | cons x r => obtain ⟨b, off, _, _, hA, _⟩ := hv.at (k := 0) (by simp at hn; omega); cases hA
    subst hl0
    simp at hn
    subst hn
    have hk := fun (W : World) (a : Option Addr) (n c : Nat) => Lib.run_eql_slice_nil (P := Tryd.prog) W 43 54 a n c 0 0 Tryd.underlying43
    clear hv
    go_enter Tryd.func61, Tryd.ntmps61
    go_wp2_with fail
    go_ret
    exact ⟨_, rfl, ⟨rfl, .inl ⟨rfl, rfl⟩⟩, Below.refl _ _⟩
  · have hk := fun (W : World) (a : Option Addr) (n c : Nat) => Lib.run_eql_slice_nil (P := Tryd.prog) W 43 54 a n c 0 0 Tryd.underlying43
    have hr := (hv.keep (belowA (Below.refl _ _) (.cells #[] 54))).reads
    have hown : (w.alloc (.cells #[] 54)).ownsRow w.heap.size 54 2 (.slice (some ⟨w.heap.size, 0, none⟩) 0 0) 0 [] := ⟨rfl, .inr ⟨w.heap.size, 0, #[], rfl, Nat.le_refl _, heap_alloc_new _ _, Nat.le_refl _, Nat.zero_le _, rfl, rfl⟩⟩
    have HV := Lib.hid hv
    have HN := Lib.hid hn
    have HR := Lib.hid hr
    have HOWN := Lib.hid hown
    clear hv hn hr hown
    go_enter Tryd.func61, Tryd.ntmps61
    go_wp2_with (at_builtin; refine wpList_append_any _ rfl (.tmp 5) (.tmp 6) _ rfl w.heap.size 54 i0 _ 2 16 Tryd.underlying43 hi0 hz0 hz1 hz2 rfl (by omega) (.slice (some ⟨w.heap.size, 0, none⟩) 0 0) 0 [] rfl HOWN.out _ _ n c (factCells l) rfl HR.out (factCells_one l) (by simp only [maxLen]; omega) (by omega) (by simp) ?_; intro v1 w1 hown1 hg1 hat1)
    go_ret
    refine ⟨v1, rfl, ?_, ?_⟩
    · rw [Nat.zero_add, List.nil_append, HN.out] at hown1
      exact hown1
    · exact (belowA (Below.refl _ _) _).grown hg1 (by simp) (by intro k hk; simp [Value.ownBlock] at hk; omega)
end Go.Proofs.YticdfbhbbapbdaaDoor
/- Rows of nogoods that the call owns, their facts in rows of the call's own. -/
namespace Go.Proofs.YticdfbhbbapbdaaDoor
open Go.RowKit

def itemCells : List Item → List Value
  | [] => []
  | x :: r => .slice x.1.1 x.1.2.1 x.1.2.2 :: .int .i64 x.2.2 :: itemCells r
theorem itemCells_length (l : List Item) : (itemCells l).length = l.length * 2 := by
  induction l with
  | nil => rfl
  | cons x r ih => simp only [itemCells, List.length_cons, ih]; omega
theorem itemCells_append (a b : List Item) : itemCells (a ++ b) = itemCells a ++ itemCells b := by
  induction a with
  | nil => rfl
  | cons x r ih => simp [itemCells, ih]
theorem itemCells_one (l : List Item) : ∀ u ∈ itemCells l, u.oneCell' = true := by
  induction l with
  | nil => intro u h; cases h
  | cons x r ih =>
    intro u h
    simp only [itemCells, List.mem_cons] at h
    rcases h with rfl | rfl | h
    · rfl
    · rfl
    · exact ih u h
theorem itemCells_at (l : List Item) : ∀ (k : Nat) (x : Item), l[k]? = some x → (itemCells l)[k * 2]? = some (.slice x.1.1 x.1.2.1 x.1.2.2) ∧ (itemCells l)[k * 2 + 1]? = some (.int .i64 x.2.2) := by
  induction l with
  | nil => intro k x h; simp at h
  | cons y r ih =>
    intro k x h
    cases k with
    | zero => simp at h; subst h; simp [itemCells]
    | succ k =>
      simp at h
      obtain ⟨h1, h2⟩ := ih k x h
      rw [show (k + 1) * 2 = k * 2 + 1 + 1 from by omega, show k * 2 + 1 + 1 + 1 = (k * 2 + 1) + 1 + 1 from rfl]
      simp only [itemCells, List.getElem?_cons_succ]
      exact ⟨h1, h2⟩
theorem nogoodInfo : (Tryd.prog.info? 45).map (fun i => (i.zero, i.size, i.bytes)) = some (some (.agg #[.slice none 0 0, .int .i64 0]), 2, 32) := by kernel_rfl

/-- an item whose facts lie in a row of the call's own -/
def EntN (w : World) (base : Nat) (x : Item) : Prop := OwnF w base (.slice x.1.1 x.1.2.1 x.1.2.2) x.2.1 ∧ x.2.1.length * 16 ≤ 140737488355328
/-- v is a row of the call's own that holds the nogoods l -/
def OwnN (w : World) (base : Nat) (v : Value) (l : List Nogood) : Prop :=
  ∃ its : List Item, its.map (·.2) = l ∧ w.ownsRow base 45 2 v l.length (itemCells its) ∧ ∀ x ∈ its, EntN w base x
theorem OwnN.nil_ (w : World) (base : Nat) : OwnN w base (.slice none 0 0) [] := ⟨[], rfl, ⟨rfl, .inl ⟨rfl, rfl⟩⟩, fun x hx => by cases hx⟩
theorem OwnN.form {w : World} {base : Nat} {v : Value} {l : List Nogood} (h : OwnN w base v l) : ∃ A c, v = .slice A l.length c := by
  obtain ⟨its, _, h, _⟩ := h
  rcases h.2 with ⟨rfl, h0⟩ | ⟨g, cap, cur, rfl, _⟩
  · exact ⟨none, 0, by rw [h0]⟩
  · exact ⟨_, _, rfl⟩
theorem EntN.facts {w : World} {base : Nat} {x : Item} (h : EntN w base x) : FactsAt w (.slice x.1.1 x.1.2.1 x.1.2.2) x.2.1 := OwnF.facts h.1 h.2
theorem EntN.kept {w w' : World} {base : Nat} {x : Item} {row : Option Nat} (h : EntN w base x) (hg : w.grownBy w' row) (hr : ∀ r, row = some r → r < base) : EntN w' base x := by
  refine ⟨World.ownsRow.kept h.1 hg ?_, h.2⟩
  cases ho : (Value.slice x.1.1 x.1.2.1 x.1.2.2).ownBlock with
  | none => exact .inl rfl
  | some k => exact .inr (fun e => by have h1 := (h.1.lt k ho).1; have h2 := hr k e.symm; omega)
/-- .. behind a write into a row of nogoods -/
theorem EntN.other {w w' : World} {base g : Nat} {cur : Array Value} {x : Item} (h : EntN w base x) (hg : w.grownBy w' (some g)) (hh : w.heap[g]? = some (.cells cur 45 (0, 0))) : EntN w' base x := by
  refine ⟨World.ownsRow.kept h.1 hg ?_, h.2⟩
  rcases h.1.2 with ⟨hv, _⟩ | ⟨g', cap', cur', hv, _, hh', _⟩
  · rw [hv]; exact .inl rfl
  · rw [hv]
    refine .inr (fun e => ?_)
    have : g' = g := by simpa [Value.ownBlock] using e
    subst this
    rw [hh] at hh'
    injection hh' with hh'
    injection hh' with _ h2 _
    exact absurd h2 (by decide)
theorem OwnN.kept {w w' : World} {base : Nat} {v : Value} {l : List Nogood} {row : Option Nat} (h : OwnN w base v l) (hg : w.grownBy w' row) (hr : ∀ r, row = some r → r < base) : OwnN w' base v l := by
  obtain ⟨its, h1, h2, h3⟩ := h
  refine ⟨its, h1, h2.kept hg ?_, fun x hx => (h3 x hx).kept hg hr⟩
  cases ho : v.ownBlock with
  | none => exact .inl rfl
  | some k => exact .inr (fun e => by have a := (h2.lt k ho).1; have b := hr k e.symm; omega)
theorem OwnN.keep {w w' : World} {base : Nat} {v : Value} {l : List Nogood} (h : OwnN w base v l) (hb : Below w.heap.size w w') : OwnN w' base v l := h.kept (grown_of_below hb none) (fun r e => by cases e)
theorem OwnN.nogoods {w : World} {base : Nat} {v : Value} {l : List Nogood} (h : OwnN w base v l) (hl : l.length * 32 ≤ 140737488355328) : NogoodsAt w v l := by
  obtain ⟨its, h1, ho, h3⟩ := h
  have hlen : its.length = l.length := by rw [← h1]; simp
  rcases id ho.2 with ⟨rfl, h0⟩ | ⟨g, cap, cur, rfl, _⟩
  · have hnil : l = [] := List.length_eq_zero_iff.1 h0
    subst hnil
    exact ⟨none, 0, rfl, by simp, fun k x hx => by simp at hx⟩
  · refine ⟨some ⟨g, 0, none⟩, cap, rfl, hl, fun k x hx => ?_⟩
    have hk : k < l.length := (List.getElem?_eq_some_iff.1 hx).1
    have hit : its[k]? = some its[k] := List.getElem?_eq_getElem (by omega)
    have hx2 : its[k].2 = x := by
      rw [← h1, List.getElem?_map, hit] at hx
      injection hx
    obtain ⟨a, b⟩ := itemCells_at its k _ hit
    refine ⟨g, 0, _, rfl, ?_, hx2 ▸ (h3 its[k] (List.getElem_mem _)).facts, ?_⟩
    · rw [Nat.zero_add, ho.cellAt (k * 2) (by omega)]
      exact a
    · rw [Nat.zero_add, ho.cellAt (k * 2 + 1) (by omega), ← hx2]
      exact b
/-- the row as the sort sees it -/
theorem OwnN.row {w : World} {base : Nat} {v : Value} {l : List Nogood} (h : OwnN w base v l) (hne : v ≠ .slice none 0 0) :
    ∃ g cap f, v = .slice (some ⟨g, 0, none⟩) l.length cap ∧ base ≤ g ∧ RowI w g cap l.length f ∧ GoodI w g l.length f ∧ (List.range l.length).map (fun k => (f k).2) = l ∧ (∀ k, k < l.length → EntN w base (f k)) ∧ cap ≤ maxLen := by
  obtain ⟨its, h1, ho, h3⟩ := h
  have hlen : its.length = l.length := by rw [← h1]; simp
  rcases id ho.2 with ⟨rfl, h0⟩ | ⟨g, cap, cur, rfl, hbg, hh, hnc, hmx, hcs, htake⟩
  · exact absurd rfl hne
  · refine ⟨g, cap, fun k => its.getD k ((none, 0, 0), ([], 0)), rfl, hbg, ⟨cur, hh, hcs, hnc, fun k hk => ?_⟩, fun k hk => ?_, ?_, fun k hk => ?_, hmx⟩
    · have hit : its[k]? = some its[k] := List.getElem?_eq_getElem (by omega)
      obtain ⟨a, b⟩ := itemCells_at its k _ hit
      rw [← htake, List.getElem?_take] at a b
      rw [if_pos (by omega)] at a b
      simp only [List.getD_eq_getElem?_getD, hit, Option.getD_some]
      exact ⟨by simpa using a, by simpa using b⟩
    · have hit : its[k]? = some its[k] := List.getElem?_eq_getElem (by omega)
      simp only [List.getD_eq_getElem?_getD, hit, Option.getD_some]
      exact ((h3 its[k] (List.getElem_mem _)).other (hush_grown g w) hh).facts
    · rw [← h1]
      refine List.ext_getElem (by simp) (fun k hk1 hk2 => ?_)
      simp at hk1 hk2
      simp [List.getD_eq_getElem?_getD, List.getElem?_eq_getElem hk2]
    · have hit : its[k]? = some its[k] := List.getElem?_eq_getElem (by omega)
      simp only [List.getD_eq_getElem?_getD, hit, Option.getD_some]
      exact h3 its[k] (List.getElem_mem _)
end Go.Proofs.YticdfbhbbapbdaaDoor
/- The abstract machine and the elder words: facts, nogoods, numbers; contracts taken over. -/
namespace Go.Proofs.YticdfbhbbapbdaaDoor.Am
open Go.RowKit
section
variable {w : World} {vs : Shp} {m : MM} {v : Value}
theorem rv_ints {l : List Int} (h : RV w vs m (.sl 1 (l.map cI)) v) (hl : l.length * 8 ≤ 140737488355328) : IntsAt w v l := by
  obtain ⟨A, cap, b, off, f, rfl, hA, _, _, _, hc, hr, _⟩ := rv_sl h
  refine ⟨A, cap, by simp, hl, fun k x hx => ?_⟩
  have hk : (l.map cI)[k]? = some (cI x) := map_at' hx
  obtain ⟨rfl, _⟩ := hA (fun e => by rw [e] at hk; simp at hk)
  have h0 := (hc k 0 _ _ hk rfl).1
  rw [rv_c (hr k 0 _ _ hk rfl)] at h0
  exact ⟨b, off, rfl, by simpa using h0⟩
theorem rv_facts {l : List Fact} (h : RV w vs m (.sl 2 (l.map cF)) v) (hl : l.length * 16 ≤ 140737488355328) : FactsAt w v l := by
  obtain ⟨A, cap, b, off, f, rfl, hA, _, _, _, hc, hr, _⟩ := rv_sl h
  refine ⟨A, cap, by simp, hl, fun k x hx => ?_⟩
  have hk : (l.map cF)[k]? = some (cF x) := map_at' hx
  obtain ⟨rfl, _⟩ := hA (fun e => by rw [e] at hk; simp at hk)
  have h0 := (hc k 0 _ _ hk rfl).1
  have h1 := (hc k 1 _ _ hk rfl).1
  rw [rv_c (hr k 0 _ _ hk rfl)] at h0
  rw [rv_c (hr k 1 _ _ hk rfl)] at h1
  exact ⟨b, off, rfl, by simpa using h0, by simpa [Nat.add_assoc] using h1⟩
theorem rv_nogoods {l : List Nogood} (h : RV w vs m (.sl 2 (l.map cN)) v) (hl : l.length * 32 ≤ 140737488355328) (hs : ∀ x ∈ l, x.1.length * 16 ≤ 140737488355328) : NogoodsAt w v l := by
  obtain ⟨A, cap, b, off, f, rfl, hA, _, _, _, hc, hr, _⟩ := rv_sl h
  refine ⟨A, cap, by simp, hl, fun k x hx => ?_⟩
  have hk : (l.map cN)[k]? = some (cN x) := map_at' hx
  obtain ⟨rfl, _⟩ := hA (fun e => by rw [e] at hk; simp at hk)
  have h0 := (hc k 0 _ _ hk rfl).1
  have h1 := (hc k 1 _ _ hk rfl).1
  rw [rv_c (hr k 1 _ _ hk rfl)] at h1
  exact ⟨b, off, f k 0, rfl, by simpa using h0, rv_facts (hr k 0 _ _ hk rfl) (hs x (List.mem_of_getElem? hx)), by simpa [Nat.add_assoc] using h1⟩

/-- values that came in -/
theorem nil_rv (sz c : Nat) : RV w vs m (.sl sz []) (.slice none 0 c) :=
  RV.sl (l := []) (b := 0) (off := 0) (f := fun _ _ => undef) (fun h => absurd rfl h) (Nat.zero_le _) (by simp) (fun k e h => by simp at h) (fun k j e x h => by simp at h) (fun k j e x h => by simp at h) (fun e he => by cases he)
end
end Go.Proofs.YticdfbhbbapbdaaDoor.Am
/- certificate.clone. -/
namespace Go.Proofs.YticdfbhbbapbdaaDoor
open Go.RowKit

theorem ownN_append {W w' : World} {base : Nat} {v v' : Value} {l : List Nogood} {its : List Item} {x : Item} (h1 : its.map (·.2) = l) (hor : W.ownsRow base 45 2 v l.length (itemCells its)) (he : ∀ y ∈ its, EntN W base y) (hx : EntN W base x)
    (ho : w'.ownsRow base 45 2 v' (l.length + 1) (itemCells its ++ itemCells [x])) (hg : W.grownBy w' v.ownBlock) : OwnN w' base v' (l ++ [x.2]) := by
  have key : ∀ y, EntN W base y → EntN w' base y := by
    intro y hy
    rcases hor.2 with ⟨rfl, _⟩ | ⟨g, cap, cur, rfl, _, hh, _⟩
    · exact hy.kept hg (fun r e => by simp [Value.ownBlock] at e)
    · exact hy.other hg hh
  refine ⟨its ++ [x], by simp [h1], ?_, fun y hy => ?_⟩
  · rw [itemCells_append, List.length_append]; exact ho
  · rcases List.mem_append.1 hy with hy | hy
    · exact key y (he y hy)
    · simp at hy; subst hy; exact key y hx

theorem OwnN.mono {w : World} {base base' : Nat} {v : Value} {l : List Nogood} (h : OwnN w base v l) (hb : base' ≤ base) : OwnN w base' v l := by
  obtain ⟨its, h1, h2, h3⟩ := h
  exact ⟨its, h1, own_mono h2 hb, fun x hx => ⟨own_mono (h3 x hx).1 hb, (h3 x hx).2⟩⟩
/-- a call of a Go function as one step of a region that draws -/
theorem step_call {P : Program} {ops : Array Oper} {o : Oper} {a : Act} {w : World} {K : Act → World → Prop} {Q : Exit → Act → World → Prop} {E : Prop} (hgd : o.guard = none) (f : FuncId) (args : Array Value)
    (hrun : (execOp a.eval o).run P w = .ok (.enter f args) w) {R : Ending → World → Prop} (hc : Calls P f args w R) (h : ∀ e w', R e w' → ∃ v, e = .returned v ∧ K (a.put o.dst v) w') :
    if Region.wanted o (yielded ops a.tmps) = true then Oper.wp P o a w K Q else E := by
  have hw : Region.wanted o (yielded ops a.tmps) = true := by simp [Region.wanted, hgd]
  rw [if_pos hw]
  unfold Oper.wp
  rw [hrun, Oper.upon_enter]
  refine hc.mono fun e w' hh => ?_
  obtain ⟨v, rfl, hk⟩ := h e w' hh
  exact hk
/-- what an append does to the row of the clone -/
theorem clone_append {wr w1 : World} {B k oc : Nat} {oA : Option Addr} {l : List Nogood} {its : List Item} {A1 : Option Addr} {c1 : Nat} {x : List Fact} {bs : Nat}
    (ho1 : OwnF w1 bs (.slice A1 x.length c1) x) (hb : Below wr.heap.size wr w1) (hsz : B + 3 ≤ wr.heap.size) (hi1 : its.map (·.2) = l.take k) (hlk : (l.take k).length = k) (hor : wr.ownsRow (B + 3) 45 2 (.slice oA k oc) k (itemCells its)) (hien : ∀ y ∈ its, EntN wr (B + 3) y) (xd : Int) (hx : x.length * 16 ≤ 140737488355328 ∧ wr.heap.size ≤ bs) :
    ∀ {ops : Array Oper} {o : Oper} {a : Act} {K : Act → World → Prop} {Q : Exit → Act → World → Prop} {E : Prop} (_ : o.guard = none) (s y : Operand) (_ : o.op = .call { callee := .builtin .append, args := #[s, y], argTypes := #[23, 23] }) (_ : a.eval s = .slice oA k oc) (_ : a.eval y = .slice (some ⟨w1.heap.size, 0, none⟩) 1 1) (_ : (k + 1) * 32 ≤ 140737488355328)
      (_ : ∀ v' w', OwnN w' (B + 3) v' (l.take k ++ [(x, xd)]) → ((∀ (p : Addr) u, wr.cell? p = some u → p.block < B + 3 → w'.cell? p = some u) ∧ (∀ g ob, g < B + 3 → wr.heap[g]? = some ob → w'.heap[g]? = some ob) ∧ Below (B + 3) wr w') → K (a.put o.dst v') w'),
      if Region.wanted o (yielded ops a.tmps) = true then Oper.wp Tryd.prog o a (w1.alloc (.cells #[.slice A1 x.length c1, .int .i64 xd] 45)) K Q else E := by
  intro ops o a K Q E hgd s y hop hs hy hroom h
  obtain ⟨i0, hi0, hz0, hz1, hz2⟩ := info_parts nogoodInfo
  have hBW : Below w1.heap.size w1 (w1.alloc (.cells #[.slice A1 x.length c1, .int .i64 xd] 45)) := belowA (Below.refl _ _) _
  have hB2 := belowT hb hBW
  have hor2 := hor.kept (grown_of_below hB2 none) (by cases (Value.slice oA k oc).ownBlock <;> simp)
  have hien2 : ∀ z ∈ its, EntN (w1.alloc (.cells #[.slice A1 x.length c1, .int .i64 xd] 45)) (B + 3) z := fun z hz => (hien z hz).kept (grown_of_below hB2 none) (fun r e => by cases e)
  have hex : EntN (w1.alloc (.cells #[.slice A1 x.length c1, .int .i64 xd] 45)) (B + 3) ((A1, x.length, c1), (x, xd)) := ⟨own_mono (ownF_keep ho1 hBW) (by omega), hx.1⟩
  have hrd : Reads (w1.alloc (.cells #[.slice A1 x.length c1, .int .i64 xd] 45)) (w1.heap.size + 1) 2 (some ⟨w1.heap.size, 0, none⟩) 1 (itemCells [((A1, x.length, c1), (x, xd))]) :=
    ⟨rfl, fun _ => ⟨_, rfl, by simp, cells_at (heap_alloc_new w1 (.cells #[.slice A1 x.length c1, .int .i64 xd] 45)) 0 _ (fun j u hu => by simpa [itemCells] using hu)⟩⟩
  refine step_append_any _ hgd s y _ hop (B + 3) 45 i0 _ 2 32 Tryd.underlying23 hi0 hz0 hz1 hz2 rfl (by omega) (.slice oA k oc) k (itemCells its) hs hor2 _ _ 1 1 _ hy hrd (itemCells_one _) (by simp only [maxLen]; omega) hroom (by have := hb.size; simp; omega) ?_
  intro v' w' g1 g2 _
  have hbl : Below (B + 3) (w1.alloc (.cells #[.slice A1 x.length c1, .int .i64 xd] 45)) w' := below_of_grown g2 (by have := hb.size; simp; omega) (fun r hr => (hor2.lt r hr).1)
  have hbl2 : Below (B + 3) wr w' := (hB2.mono hsz).trans hbl
  refine h v' w' ?_ ⟨fun p u hu hp => by rw [hbl2.cell hp]; exact hu, fun g ob hg hob => by rw [hbl2.block g hg]; exact hob, hbl2⟩
  exact ownN_append hi1 (by rw [hlk]; exact hor2) hien2 hex (by rw [hlk]; exact g1) g2

set_option maxHeartbeats 4000000 in
set_option maxRecDepth 100000 in
theorem clone_calls (bd : Int) (v : Value) (l : List Nogood) (w : World) (hv : NogoodsAt w v l) :
    Calls Tryd.prog 43 #[.agg #[.int .i64 bd, v]] w fun e w' => ∃ v', e = .returned (.agg #[.int .i64 bd, v']) ∧ OwnN w' w.heap.size v' l ∧ Below w.heap.size w w' := by
  obtain ⟨A, n, c, rfl, hn, hm⟩ := hv.form
  obtain ⟨i0, hi0, hz0, hz1, hz2⟩ := info_parts nogoodInfo
  have hroom : n * 32 ≤ 140737488355328 := by obtain ⟨_, _, hv', hl, _⟩ := id hv; injection hv' with _ h2 _; omega
  have HV := Lib.hid hv
  have HN := Lib.hid hn
  clear hv hn
  go_enter Tryd.func43, Tryd.ntmps43
  go_wp2
  go_loopg [12] n (fun gh i wr => ∃ (k : Nat) (ov : Value), k ≤ n ∧ gh = n - k ∧ i = .int .i64 k ∧ Below w.heap.size w wr ∧ w.heap.size + 3 ≤ wr.heap.size ∧ wr.heap[w.heap.size + 2]? = some (.cells #[.int .i64 bd, ov] 25 (0, 0)) ∧ wr.heap[w.heap.size + 1]? = some (.cells #[.int .i64 0, .slice none 0 0] 25 (0, 0)) ∧ OwnN wr (w.heap.size + 3) ov (l.take k))
  case atStart => exact ⟨0, .slice none 0 0, Nat.zero_le _, by omega, by go_num, belowA (belowA (belowA (Below.refl _ _) _) _) _, by simp, by have := heap_alloc_new ((w.alloc (.cells #[.int .i64 bd, .slice A n c] 25)).alloc (.cells #[.int .i64 0, .slice none 0 0] 25)) (.cells #[.int .i64 bd, .slice none 0 0] 25); simpa using this, by have := heap_alloc_new (w.alloc (.cells #[.int .i64 bd, .slice A n c] 25)) (.cells #[.int .i64 0, .slice none 0 0] 25); rw [(belowA (Below.refl _ _) _).block _ (by simp)]; simpa using this, OwnN.nil_ _ _⟩
  case round =>
    obtain ⟨k, ov, hk, hg, rfl, hB, hsz, hb2, hb1, hown⟩ := hrel
    by_cases hlt : k < n
    · obtain ⟨bb, off, xA, xn, xc, x, xd, rfl, c0, hxn, hxm, hxv, c1, hx, hd⟩ := (HV.out.keep hB).at hlt
      have hbr : bb < wr.heap.size := lt_of_cell c0
      obtain ⟨oA, oc, rfl⟩ := hown.form
      have hlk : (l.take k).length = k := by rw [List.length_take]; have := HN.out; omega
      rw [hlk] at hb2 hown
      have k1 : wr.cell? ⟨w.heap.size + 2, 1, none⟩ = some (.slice oA k oc) := by simp [World.cell?, hb2]
      have kf : ∀ j, wr.frozen? ⟨w.heap.size + 2, j, none⟩ = false := fun j => by simp [World.frozen?, hb2]
      have hcl := fun (W : World) (hb : Below wr.heap.size wr W) => cloneF_calls _ x W (hxv.keep hb)
      have HG := Lib.hid hg
      have HB := Lib.hid hB
      have HB2 := Lib.hid hb2
      have HB1 := Lib.hid hb1
      have HOWN := Lib.hid hown
      have HXN := Lib.hid hxn
      have HXV := Lib.hid hxv
      have HX := Lib.hid hx
      have HD := Lib.hid hd
      have HLK := Lib.hid hlk
      have HCL := Lib.hid hcl
      clear hg hB hb2 hb1 hown hxn hxv hx hd hlk hcl
      have hbn : Below wr.heap.size wr (wr.alloc (.cells #[.slice xA xn xc, .int .i64 xd] 45)) := belowA (Below.refl _ _) _
      have j0 : (wr.alloc (.cells #[.slice xA xn xc, .int .i64 xd] 45)).cell? ⟨wr.heap.size, 0, none⟩ = some (.slice xA xn xc) := by simp
      have j1 : (wr.alloc (.cells #[.slice xA xn xc, .int .i64 xd] 45)).cell? ⟨wr.heap.size, 1, none⟩ = some (.int .i64 xd) := by simp
      have j2 := kept hbn k1
      have HBN := Lib.hid hbn
      clear hbn
      go_upto_region 5 with fail
      generalize wr.alloc (.cells #[.slice xA xn xc, .int .i64 xd] 45) = W0 at j0 j1 j2 HBN ⊢
      obtain ⟨its, hi1, hor, hien⟩ := HOWN.out
      rw [HLK.out] at hor
      have HI1 := Lib.hid hi1
      have HOR := Lib.hid hor
      have HIEN := Lib.hid hien
      clear hi1 hor hien
      have hxr : x.length * 16 ≤ 140737488355328 ∧ wr.heap.size ≤ W0.drew.heap.size := ⟨by obtain ⟨_, _, _, hl, _⟩ := HXV.out; exact hl, HBN.out.size⟩
      have HXR := Lib.hid hxr
      clear hxr
      have hz3 : w.heap.size + 2 < w.heap.size + 3 := by omega
      have hroom1 : (k + 1) * 32 ≤ 140737488355328 := by omega
      go_region_law (first
        | (rw [if_pos (by simp [Region.wanted])]; unfold Oper.wp; go_simp; refine (HCL.out _ (Below.drew HBN.out)).mono ?_; rintro e w1 ⟨v1, rfl, hown1, hb1⟩; obtain ⟨A1, c1', rfl⟩ := hown1.form; have m1 := kept hb1 j1; have m2 := kept hb1 j2; have HO1 := Lib.hid hown1; have HBW1 : Hid (Below wr.heap.size wr w1) := belowT (Below.drew HBN.out) hb1; have n1 : w.heap.size + 2 < w1.heap.size := (by have := HBW1.out.size; omega); have n2 : w.heap.size + 1 + 1 < w1.heap.size := (by have := HBW1.out.size; omega); have m3 : w1.cell? ⟨w.heap.size + 1 + 1, 1, none⟩ = some (.slice oA k oc) := m2; clear hown1 hb1)
        | (refine clone_append HO1.out HBW1.out hsz HI1.out HLK.out HOR.out HIEN.out xd HXR.out rfl (.tmp 17) (.tmp 24) rfl (by simp [Act.eval]) (by simp [Act.eval]) hroom1 ?_; intro v5 w5 hown5 hg5; have HO5 := Lib.hid hown5; have HG5 := Lib.hid hg5; have s0 := HG5.out.2.1 (w.heap.size + 2) _ hz3 HB2.out; have s1 : w5.cell? ⟨w.heap.size + 2, 1, none⟩ = some (.slice oA k oc) := (by simp [World.cell?, s0]); have s2 : ∀ j, w5.frozen? ⟨w.heap.size + 2, j, none⟩ = false := (fun j => (by simp [World.frozen?, s0])); have HS0 := Lib.hid s0; clear s0; obtain ⟨A5, c5, hv5⟩ := hown5.form; obtain ⟨L5, hL5⟩ : ∃ L5, L5 = (l.take k ++ [(x, xd)]).length := ⟨_, rfl⟩; rw [← hL5] at hv5; subst hv5; have HL5 := Lib.hid hL5; clear hown5 hg5 hL5))
      all_goals
        go_wp2_with fail
        go_roundg (n - (k + 1))
        case measure => have := HG.out; omega
        case rel =>
          have hset := set_grown (i := 1) HS0.out (.slice A5 L5 c5)
          have htk : l.take (k + 1) = l.take k ++ [(x, xd)] := by rw [List.take_add_one, HX.out]; rfl
          have hbl5 : Below w.heap.size w w5 := HB.out.trans (HG5.out.2.2.mono (by omega))
          have hb1' := HG5.out.2.1 (w.heap.size + 1) _ (by omega) HB1.out
          refine ⟨k + 1, _, by omega, rfl, by go_num, hbl5.trans (below_of_grown hset hbl5.size (fun g hg => by injection hg with hg; omega)), ?_, set_block HS0.out _ _ rfl, ?_, ?_⟩
          · exact Nat.le_trans hsz (Nat.le_trans HG5.out.2.2.size hset.size)
          · rw [hset.block (w.heap.size + 1) (by have := HG5.out.2.2.size; omega) (fun e => by injection e with e; omega)]; exact hb1'
          · rw [htk]
            exact HO5.out.kept hset (fun r e => by injection e with e; omega)
    · obtain ⟨oA, oc, rfl⟩ := hown.form
      have hke : l.take k = l := List.take_of_length_le (by have := HN.out; omega)
      rw [hke] at hown hb2
      have k0 : wr.cell? ⟨w.heap.size + 2, 0, none⟩ = some (.int .i64 bd) := by simp [World.cell?, hb2]
      have k1 : wr.cell? ⟨w.heap.size + 2, 1, none⟩ = some (.slice oA l.length oc) := by simp [World.cell?, hb2]
      have r0 : wr.cell? ⟨w.heap.size + 1, 0, none⟩ = some (.int .i64 0) := by simp [World.cell?, hb1]
      have r1 : wr.cell? ⟨w.heap.size + 1, 1, none⟩ = some (.slice none 0 0) := by simp [World.cell?, hb1]
      have kf : ∀ j, wr.frozen? ⟨w.heap.size + 1, j, none⟩ = false := fun j => by simp [World.frozen?, hb1]
      have HG := Lib.hid hg
      have HB := Lib.hid hB
      have HB2 := Lib.hid hb2
      have HB1 := Lib.hid hb1
      have HOWN := Lib.hid hown
      have HKE := Lib.hid hke
      clear hg hB hb2 hb1 hown hke
      go_wp2_with fail
      have t1 := set_block (i := 0) HB1.out (.int .i64 bd) #[.int .i64 bd, .slice none 0 0] rfl
      have t2 := set_block (i := 1) t1 (.slice oA l.length oc) #[.int .i64 bd, .slice oA l.length oc] rfl
      have gg := World.grownBy.trans (set_grown (i := 0) HB1.out (.int .i64 bd)) (set_grown (i := 1) t1 (.slice oA l.length oc))
      generalize (wr.setCell ⟨w.heap.size + 1, 0, none⟩ (.int .i64 bd)).setCell ⟨w.heap.size + 1, 1, none⟩ (.slice oA l.length oc) = wf at t2 gg ⊢
      have e0 : wf.cell? ⟨w.heap.size + 1, 0, none⟩ = some (.int .i64 bd) := by simp [World.cell?, t2]
      have e1 : wf.cell? ⟨w.heap.size + 1, 1, none⟩ = some (.slice oA l.length oc) := by simp [World.cell?, t2]
      exact bodyPost_ret (v := .agg #[.int .i64 bd, .slice oA l.length oc]) (by simp [results, Tryd.results43, go_sem, e0, e1]) rfl ⟨_, rfl, (HOWN.out.kept gg (fun r e => by injection e with e; omega)).mono (by omega), HB.out.trans (below_of_grown gg HB.out.size (fun g hg => by injection hg with hg; omega))⟩
end Go.Proofs.YticdfbhbbapbdaaDoor
/- certificate.formed: are facts a partial state within the limits? -/
namespace Go.Proofs.YticdfbhbbapbdaaDoor
open Go.RowKit

def badB (x y p : Int) (k : Nat) : Bool := decide (x < 0) || decide (64 ≤ x) || decide (y < 0) || decide (64 ≤ y) || (decide (0 < k) && decide (x ≤ p))
def formedL : Nat → Int → List Fact → Bool
  | _, _, [] => true
  | k, p, (x, y) :: r => if badB x y p k then false else formedL (k + 1) x r
def formedF (l : List Fact) : Bool := formedL 0 0 l

set_option maxHeartbeats 1000000 in
theorem formed_calls (v : Value) (fs : List Fact) (w : World) (hv : FactsAt w v fs) :
    Calls Tryd.prog 30 #[v] w fun e w' => e = .returned (.bool (formedF fs)) ∧ Below w.heap.size w w' := by
  obtain ⟨A, n, c, rfl, hn, hm⟩ := hv.form
  have HV := Lib.hid hv
  have HN := Lib.hid hn
  clear hv hn
  go_enter Tryd.func30, Tryd.ntmps30
  go_wp2
  go_loopg [7] n (fun g i wr => ∃ k p, k ≤ n ∧ g = n - k ∧ i = .int .i64 k ∧ Below w.heap.size w wr ∧ (∀ q, 0 < k → fs[k - 1]? = some q → p = q.1) ∧ formedF fs = formedL k p (fs.drop k))
  case atStart => exact ⟨0, 0, Nat.zero_le _, by omega, rfl, Below.refl _ _, fun _ h => absurd h (by omega), rfl⟩
  case round =>
    obtain ⟨k, p, hk, hg, rfl, hB, hp, hF⟩ := hrel
    have HG := Lib.hid hg
    have HP := Lib.hid hp
    have HF := Lib.hid hF
    clear hg hp hF
    by_cases hlt : k < n
    · obtain ⟨b, off, x, y, rfl, c0, c1, hx, hd⟩ := (HV.out.keep hB).at hlt
      have hbr : b < wr.heap.size := lt_of_cell c0
      have HX := Lib.hid hx
      have HD := Lib.hid hd
      clear hx hd
      by_cases hk0 : 0 < k
      · obtain ⟨b', off', x', y', hA', p0, _, hx', _⟩ := (HV.out.keep hB).at (k := k - 1) (by omega)
        injection hA' with hA'
        injection hA' with hb' ho'
        subst hb' ho'
        have hpx := HP.out _ hk0 hx'
        simp only at hpx
        subst hpx
        clear hx'
        have d0 : decide (0 < k) = true := by simpa using hk0
        go_upto_region 4 with fail
        go_cut [44] (fun s wx => s = .bool (badB x y p k) ∧ Below w.heap.size w wx)
        case first =>
          refine wp_region_quiet_lit (by kernel_rfl) (by kernel_rfl) ?_
          repeat (any_goals (first | go_big_quiet_step (fail) | quiet_step (fail) | (refine wpQuiet_step (fun K hK => ?_); go_simp; split <;> (refine hK _ ?_; clear hK K))))
          all_goals (refine wpQuiet_nil ?_; intro _ hw'; obtain ⟨nq, hw''⟩ := hw'; subst hw'')
          all_goals (go_wp2_with fail; go_meet; exact ⟨by simp [badB, d0] <;> omega, below_drewN (belowA hB _) _⟩)
        case rest =>
          obtain ⟨rfl, hB'⟩ := hcut
          cases hbad : badB x y p k
          · go_wp2
            go_roundg (n - (k + 1))
            case measure => have := HG.out; omega
            case rel =>
              refine ⟨k + 1, x, by omega, rfl, by go_num, hB', fun q _ hq => ?_, ?_⟩
              · rw [Nat.add_sub_cancel, HX.out] at hq; injection hq with hq; rw [← hq]
              · rw [HF.out, HD.out, formedL, hbad]; rfl
          · go_wp2
            go_ret
            exact ⟨by rw [HF.out, HD.out, formedL, hbad]; rfl, hB'⟩
      · have d0 : decide (0 < k) = false := by simpa using hk0
        go_upto_region 4 with fail
        go_cut [44] (fun s wx => s = .bool (badB x y p k) ∧ Below w.heap.size w wx)
        case first =>
          refine wp_region_quiet_lit (by kernel_rfl) (by kernel_rfl) ?_
          repeat (any_goals (first | go_big_quiet_step (fail) | quiet_step (fail) | (refine wpQuiet_step (fun K hK => ?_); go_simp; split <;> (refine hK _ ?_; clear hK K))))
          all_goals (refine wpQuiet_nil ?_; intro _ hw'; obtain ⟨nq, hw''⟩ := hw'; subst hw'')
          all_goals (go_wp2_with fail; go_meet; exact ⟨by simp [badB, d0] <;> omega, below_drewN (belowA hB _) _⟩)
        case rest =>
          obtain ⟨rfl, hB'⟩ := hcut
          cases hbad : badB x y p k
          · go_wp2
            go_roundg (n - (k + 1))
            case measure => have := HG.out; omega
            case rel =>
              refine ⟨k + 1, x, by omega, rfl, by go_num, hB', fun q _ hq => ?_, ?_⟩
              · rw [Nat.add_sub_cancel, HX.out] at hq; injection hq with hq; rw [← hq]
              · rw [HF.out, HD.out, formedL, hbad]; rfl
          · go_wp2
            go_ret
            exact ⟨by rw [HF.out, HD.out, formedL, hbad]; rfl, hB'⟩
    · go_wp2
      go_ret
      exact ⟨by rw [HF.out, List.drop_eq_nil_of_le (by have := HN.out; omega), formedL]; rfl, hB⟩
end Go.Proofs.YticdfbhbbapbdaaDoor
/- Errors: an error is nil or an error code; comparing with nil, and stratagembase.Num. -/
namespace Go.Proofs.YticdfbhbbapbdaaDoor
open Go.RowKit

/-- an error value: nil, or an error code -/
def errV (n : Int) : Value := if n = 0 then .nilIface else .iface 55 (.int .i64 n)
theorem errV_zero : errV 0 = .nilIface := rfl
theorem errV_ne {n : Int} (h : n ≠ 0) : errV n = .iface 55 (.int .i64 n) := by rw [errV, if_neg h]
@[go_sem] theorem run_err_eql (x : Value) (w : World) : (binOp .eql 28 (.iface 55 x) .nilIface).run Tryd.prog w = .ok (.bool false) w := run_eql_held_nil w _ _ x (by kernel_rfl)
@[go_sem] theorem run_err_neq (x : Value) (w : World) : (binOp .neq 28 (.iface 55 x) .nilIface).run Tryd.prog w = .ok (.bool true) w := run_neq_held_nil w _ _ x (by kernel_rfl)
@[go_sem] theorem run_err_as (v : Value) (w : World) : (Instr.typeAssert (.iface 55 v) 28 55 true).run Tryd.prog w = .ok (.tuple #[v, .bool true]) w := by kernel_rfl

theorem num_nil (w : World) : Calls Tryd.prog 12 #[.nilIface] w fun e w' => e = .returned (.int .i64 0) ∧ w = w' := by
  go_enter Tryd.func12, Tryd.ntmps12
  go_wp2
  go_ret
  exact ⟨rfl, rfl⟩
theorem num_err (n : Int) (w : World) : Calls Tryd.prog 12 #[.iface 55 (.int .i64 n)] w fun e w' => e = .returned (.int .i64 n) ∧ w = w' := by
  go_enter Tryd.func12, Tryd.ntmps12
  go_wp2
  go_ret
  exact ⟨rfl, rfl⟩
theorem num_calls (n : Int) (w : World) : Calls Tryd.prog 12 #[errV n] w fun e w' => e = .returned (.int .i64 n) ∧ w = w' := by
  unfold errV
  split
  · subst n; exact num_nil w
  · exact num_err n w
end Go.Proofs.YticdfbhbbapbdaaDoor
/- certificate.Check: the first error of a certificate. -/
namespace Go.Proofs.YticdfbhbbapbdaaDoor
open Go.RowKit

def badDist (b d : Int) : Bool := decide (d < 0) || (decide (0 ≤ b) && decide (b ≤ d)) || (decide (b < 0) && d != 0)
def checkF (b : Int) (l : List Nogood) : Int :=
  if b < -1 ∨ 1099511627776 < b then 1 else if 4096 < l.length then 5 else if l.all (fun x => formedF x.1) = false then 2 else if l.any (fun x => badDist b x.2) then 1 else 0

set_option maxHeartbeats 1000000 in
theorem check_calls (bd : Int) (v : Value) (l : List Nogood) (w : World) (hv : NogoodsAt w v l) :
    Calls Tryd.prog 13 #[.agg #[.int .i64 bd, v]] w fun e w' => e = .returned (errV (checkF bd l)) ∧ Below w.heap.size w w' := by
  obtain ⟨A, n, c, rfl, hn, hm⟩ := hv.form
  have HV := Lib.hid hv
  have HN := Lib.hid hn
  clear hv hn
  go_enter Tryd.func13, Tryd.ntmps13
  by_cases h1 : bd < -1 ∨ 1099511627776 < bd
  · have hfin : checkF bd l = 1 := by rw [checkF, if_pos h1]
    have HFIN := Lib.hid hfin
    clear hfin
    go_wp2
    all_goals (go_ret; exact ⟨by rw [HFIN.out]; rfl, belowA (Below.refl _ _) _⟩)
  · have hb1 : -1 ≤ bd := by omega
    have hb2 : bd ≤ 1099511627776 := by omega
    by_cases h2 : 4096 < n
    · have hfin : checkF bd l = 5 := by rw [checkF, if_neg h1, if_pos (by have := HN.out; omega)]
      have HFIN := Lib.hid hfin
      clear hfin
      clear h1
      go_wp2
      go_ret
      exact ⟨by rw [HFIN.out]; rfl, belowA (Below.refl _ _) _⟩
    · have hfin : checkF bd l = if l.all (fun x => formedF x.1) = false then 2 else if l.any (fun x => badDist bd x.2) then 1 else 0 := by
        rw [checkF, if_neg h1, if_neg (by have := HN.out; omega)]
      have HFIN := Lib.hid hfin
      clear hfin
      clear h1
      go_wp2
      go_loopg [24] n (fun g i wr => ∃ k : Nat, k ≤ n ∧ g = n - k ∧ i = .int .i64 k ∧ Below w.heap.size w wr ∧ wr.cell? ⟨w.heap.size, 0, none⟩ = some (.int .i64 bd) ∧ wr.cell? ⟨w.heap.size, 1, none⟩ = some (.slice A n c) ∧ l.all (fun x => formedF x.1) = (l.drop k).all (fun x => formedF x.1))
      case atStart => exact ⟨0, Nat.zero_le _, by omega, rfl, belowA (Below.refl _ _) _, by simp [World.cell?_alloc_new], by simp [World.cell?_alloc_new], rfl⟩
      case round =>
        obtain ⟨k, hk, hg, rfl, hB, hc0, hc1, hF⟩ := hrel
        have HG := Lib.hid hg
        have HF := Lib.hid hF
        clear hg hF
        by_cases hlt : k < n
        · obtain ⟨b, off, fA, fn, fc, fs, d, rfl, c0, hfn, hfm, hfs, c1, hx, hd⟩ := (HV.out.keep hB).at hlt
          have hbr : b < wr.heap.size := lt_of_cell c0
          have hbw : w.heap.size < wr.heap.size := lt_of_cell hc0
          have HX := Lib.hid hx
          have HD := Lib.hid hd
          have HFS := Lib.hid hfs
          have HFN := Lib.hid hfn
          clear hx hd hfs hfn
          cases hform : formedF fs
          · have HFO := Lib.hid hform
            clear hform
            go_wp2_with (go_at_call 30; refine (formed_calls _ fs _ (HFS.out.keep (belowA (Below.refl _ _) _))).mono ?_; rw [HFO.out]; rintro e w' ⟨rfl, hb'⟩)
            go_ret
            exact ⟨by rw [HFIN.out, HF.out, HD.out]; simp [HFO.out]; rfl, belowT (belowA hB _) hb'⟩
          · have HFO := Lib.hid hform
            clear hform
            go_wp2_with (go_at_call 30; refine (formed_calls _ fs _ (HFS.out.keep (belowA (Below.refl _ _) _))).mono ?_; rw [HFO.out]; rintro e w' ⟨rfl, hb'⟩)
            go_roundg (n - (k + 1))
            case measure => have := HG.out; omega
            case rel => exact ⟨k + 1, by omega, rfl, by go_num, belowT (belowA hB _) hb', kept hb' (kept (belowA (Below.refl _ _) _) hc0), kept hb' (kept (belowA (Below.refl _ _) _) hc1), by rw [HF.out, HD.out]; simp [HFO.out]⟩
        · have hall : l.all (fun x => formedF x.1) = true := by rw [HF.out, List.drop_eq_nil_of_le (by have := HN.out; omega)]; rfl
          have hfin2 : checkF bd l = if l.any (fun x => badDist bd x.2) then 1 else 0 := by rw [HFIN.out, hall]; simp
          have HFIN2 := Lib.hid hfin2
          clear hfin2
          clear hall
          have hbw : w.heap.size < wr.heap.size := lt_of_cell hc0
          go_wp2
          obtain ⟨wo, rfl⟩ : ∃ wo : World, wo = wr := ⟨_, rfl⟩
          go_loopg [37] n (fun g i wr => ∃ k : Nat, k ≤ n ∧ g = n - k ∧ i = .int .i64 k ∧ Below w.heap.size w wr ∧ wr.cell? ⟨w.heap.size, 0, none⟩ = some (.int .i64 bd) ∧ l.any (fun x => badDist bd x.2) = (l.drop k).any (fun x => badDist bd x.2))
          case atStart => exact ⟨0, Nat.zero_le _, by omega, rfl, hB, hc0, rfl⟩
          case round =>
            clear HF HG hlt hc0 hc1 hB hbw
            obtain ⟨j, hj, hg, rfl, hB, hc0, hF⟩ := hrel
            have HG := Lib.hid hg
            have HF := Lib.hid hF
            clear hg hF
            by_cases hlt : j < n
            · obtain ⟨b, off, fA, fn, fc, fs, d, rfl, c0, hfn, hfm, hfs, c1, hx, hd⟩ := (HV.out.keep hB).at hlt
              have hbr : b < wr.heap.size := lt_of_cell c0
              have hbw : w.heap.size < wr.heap.size := lt_of_cell hc0
              have HX := Lib.hid hx
              have HD := Lib.hid hd
              have HFS := Lib.hid hfs
              have HFN := Lib.hid hfn
              clear hx hd hfs hfn
              go_upto_region 14 with fail
              go_cut [65] (fun s wx => s = .bool (badDist bd d) ∧ Below w.heap.size w wx ∧ wx.cell? ⟨w.heap.size, 0, none⟩ = some (.int .i64 bd))
              case first =>
                go_wp2_with fail
                all_goals (go_meet; exact ⟨by rw [Value.bool.injEq, Bool.eq_iff_iff]; simp [badDist] <;> omega, belowA hB _, kept (belowA (Below.refl _ _) _) hc0⟩)
              case rest =>
                obtain ⟨rfl, hB', hc'⟩ := hcut
                cases hbad : badDist bd d
                · go_wp2
                  go_roundg (n - (j + 1))
                  case measure => have := HG.out; omega
                  case rel => exact ⟨j + 1, by omega, rfl, by go_num, hB', hc', by rw [HF.out, HD.out]; simp [hbad]⟩
                · go_wp2
                  go_ret
                  exact ⟨by rw [HFIN2.out, HF.out, HD.out]; simp [hbad]; rfl, hB'⟩
            · go_wp2
              go_ret
              exact ⟨by rw [HFIN2.out, HF.out, List.drop_eq_nil_of_le (by have := HN.out; omega)]; rfl, hB⟩
end Go.Proofs.YticdfbhbbapbdaaDoor
/- certificate.Sort. -/
namespace Go.Proofs.YticdfbhbbapbdaaDoor
open Go.RowKit

def leNB (x y : Nogood) : Bool := !decide (cmpN y x < 0)
theorem leNB_iff (x y : Nogood) : leNB x y = true ↔ LtN x y ∨ x = y := by
  unfold leNB
  rw [← leN_iff, ← cmpN_lt]
  simp
def sortN (l : List Nogood) : List Nogood := l.mergeSort leNB
theorem sortN_perm (l : List Nogood) : (sortN l).Perm l := List.mergeSort_perm l _
theorem leN_trans {x y z : Nogood} (a : LtN x y ∨ x = y) (b : LtN y z ∨ y = z) : LtN x z ∨ x = z := by
  rcases a with a | rfl <;> rcases b with b | rfl
  · exact .inl (LtN_trans a b)
  · exact .inl a
  · exact .inl b
  · exact .inr rfl
theorem sortN_sorted (l : List Nogood) : (sortN l).Pairwise (fun x y => LtN x y ∨ x = y) := by
  have := List.pairwise_mergeSort (le := leNB) (fun a b c h1 h2 => by rw [leNB_iff] at *; exact leN_trans h1 h2) (fun a b => by rw [Bool.or_eq_true, leNB_iff, leNB_iff]; rcases LtN_tri a b with h | h | h <;> simp [h]) l
  exact this.imp (fun h => (leNB_iff _ _).1 h)
theorem sortN_unique {a l : List Nogood} (hp : a.Perm l) (hs : a.Pairwise (fun x y => LtN x y ∨ x = y)) : a = sortN l :=
  List.Perm.eq_of_pairwise (fun x y _ _ h1 h2 => by
    rcases h1 with h1 | rfl
    · rcases h2 with h2 | rfl
      · exact absurd (LtN_trans h1 h2) (LtN_irr _)
      · rfl
    · rfl) hs (sortN_sorted l) (hp.trans (sortN_perm l).symm)

theorem insertion_nil (w : World) : Calls Tryd.prog 75 #[.slice none 0 0, .int .i64 0, .int .i64 0, .func (.func 45) #[] #[]] w fun e w' => e = .returned (.tuple #[]) ∧ w = w' := by
  go_enter Tryd.func75, Tryd.ntmps75
  go_wp2
  go_loopg [8] 0 (fun gh iv wr => gh = 0 ∧ iv = .int .i64 1 ∧ wr = w)
  case atStart => exact ⟨rfl, rfl, rfl⟩
  case round =>
    obtain ⟨hg, rfl, rfl⟩ := hrel
    clear hg
    go_wp2
    go_end0
    exact ⟨rfl, rfl⟩
theorem stable_nil (w : World) : Calls Tryd.prog 62 #[.slice none 0 0, .int .i64 0, .func (.func 45) #[] #[]] w fun e w' => e = .returned (.tuple #[]) ∧ w = w' := by
  go_enter Tryd.func62, Tryd.ntmps62
  go_wp2
  go_loopg [7, 8] 0 (fun gh av bv wr => gh = 0 ∧ av = .int .i64 0 ∧ bv = .int .i64 20 ∧ wr = w)
  case atStart => exact ⟨rfl, rfl, rfl, rfl⟩
  case round =>
    obtain ⟨hg, rfl, rfl, rfl⟩ := hrel
    clear hg
    go_wp2_with (go_at_call 75; refine (insertion_nil _).mono ?_; rintro e w1 ⟨rfl, rfl⟩)
    go_loopg [6, 7, 8, 9] 0 (fun gh sv av bv mv w2 => gh = 0 ∧ sv = .int .i64 20 ∧ w2 = wr)
    case atStart => exact ⟨rfl, rfl, rfl⟩
    case round =>
      obtain ⟨hg, rfl, rfl⟩ := hrel
      clear hg
      go_wp2
      go_end0
      exact ⟨rfl, rfl⟩
theorem sortStable_nil (w : World) : Calls Tryd.prog 44 #[.slice none 0 0, .func (.func 45) #[] #[]] w fun e w' => e = .returned (.tuple #[]) ∧ w = w' := by
  go_enter Tryd.func44, Tryd.ntmps44
  go_wp2_with (go_at_call 62; refine (stable_nil _).mono ?_; rintro e w1 ⟨rfl, rfl⟩)
  go_end0
  exact ⟨rfl, rfl⟩

theorem itemCells_get (its : List Item) (j : Nat) : (itemCells its)[j]? = (its[j / 2]?).map (fun x => if j % 2 = 0 then Value.slice x.1.1 x.1.2.1 x.1.2.2 else .int .i64 x.2.2) := by
  cases h : its[j / 2]? with
  | none =>
    rw [List.getElem?_eq_none_iff] at h
    rw [List.getElem?_eq_none (by rw [itemCells_length]; omega)]
    rfl
  | some x =>
    obtain ⟨a, b⟩ := itemCells_at its (j / 2) x h
    rcases Nat.mod_two_eq_zero_or_one j with hm | hm
    · rw [show j / 2 * 2 = j by omega] at a
      rw [a]; simp [hm]
    · rw [show j / 2 * 2 + 1 = j by omega] at b
      rw [b]; simp [hm]
theorem row_own {w : World} {g cap N base : Nat} {f : Nat → Item} (h : RowI w g cap N f) (hb : base ≤ g) (hc : cap ≤ maxLen) : w.ownsRow base 45 2 (.slice (some ⟨g, 0, none⟩) N cap) N (itemCells ((List.range N).map f)) := by
  obtain ⟨cur, h1, h2, h3, h4⟩ := h
  refine ⟨by rw [itemCells_length]; simp, .inr ⟨g, cap, cur, rfl, hb, h1, h3, hc, h2, ?_⟩⟩
  refine List.ext_getElem? (fun j => ?_)
  rw [itemCells_get, List.getElem?_map, List.getElem?_take]
  by_cases hj : j < N * 2
  · rw [if_pos hj, List.getElem?_range (by omega)]
    obtain ⟨a, b⟩ := h4 (j / 2) (by omega)
    rcases Nat.mod_two_eq_zero_or_one j with hm | hm
    · rw [show j / 2 * 2 = j by omega] at a
      simp [hm, a]
    · rw [show j / 2 * 2 + 1 = j by omega] at b
      simp [hm, b]
  · rw [if_neg hj, List.getElem?_eq_none (by simp; omega)]
    rfl
theorem sortOwn_calls (base : Nat) (v : Value) (l : List Nogood) (w : World) (h : OwnN w base v l) (hN : l.length ≤ 100000) :
    Calls Tryd.prog 44 #[v, cmpV] w fun e w' => e = .returned (.tuple #[]) ∧ OwnN w' base v (sortN l) ∧ w.grownBy w' v.ownBlock := by
  by_cases hv : v = .slice none 0 0
  · subst hv
    have hl : l = [] := by
      obtain ⟨its, h1, ho, _⟩ := h
      rcases ho.2 with ⟨_, h0⟩ | ⟨g, cap, cur, hv, _⟩
      · exact List.length_eq_zero_iff.1 h0
      · injection hv with hv; cases hv
    subst hl
    refine (sortStable_nil w).mono ?_
    rintro e w' ⟨rfl, rfl⟩
    exact ⟨rfl, by rw [show sortN [] = [] by simp [sortN]]; exact h, World.grownBy.refl _ _⟩
  · obtain ⟨g, cap, f, rfl, hbg, hr, hgd, hl, hen, hcm⟩ := h.row hv
    refine (sortStable_calls ordI g cap l.length f w hr hgd hN).mono ?_
    rintro e w' ⟨rfl, f', hr', hp, hw, hs, hg⟩
    have hlist : (List.range l.length).map (fun k => (f' k).2) = sortN l := by
      refine sortN_unique ?_ ?_
      · have h2 := hp.map (·.2)
        rw [List.map_map, List.map_map] at h2
        have e1 : (List.range l.length).map ((fun x : Item => x.2) ∘ f) = l := hl
        rw [e1] at h2
        exact h2
      · rw [List.pairwise_map]
        refine List.Pairwise.imp_of_mem ?_ (List.pairwise_lt_range (n := l.length))
        intro a b ha hb' hab
        have := hs a b (Nat.zero_le _) hab (List.mem_range.1 hb')
        rw [leI_iff, leN_iff] at this
        exact this
    have hlen : (sortN l).length = l.length := (sortN_perm l).length_eq
    obtain ⟨cur, hcur, _⟩ := id hr
    refine ⟨rfl, ⟨(List.range l.length).map f', by rw [List.map_map]; exact hlist, by rw [hlen]; exact row_own hr' hbg hcm, fun x hx => ?_⟩, hg⟩
    obtain ⟨k, hk, rfl⟩ := List.mem_map.1 hx
    obtain ⟨k', _, h2, e⟩ := hw.2 k (Nat.zero_le _) (List.mem_range.1 hk)
    rw [e]
    exact (hen k' h2).other hg hcur

theorem OwnN.lt {w : World} {base : Nat} {v : Value} {l : List Nogood} (h : OwnN w base v l) : ∀ r, v.ownBlock = some r → base ≤ r ∧ r < w.heap.size := by
  obtain ⟨_, _, ho, _⟩ := h
  exact fun r hr => ho.lt r hr
def sortC (bd : Int) (l : List Nogood) : List Nogood := if checkF bd l = 0 then sortN l else l
theorem checkF_len {bd : Int} {l : List Nogood} (h : checkF bd l = 0) : l.length ≤ 4096 := by
  unfold checkF at h
  split at h
  · cases h
  · split at h
    · cases h
    · omega


set_option maxHeartbeats 4000000 in
set_option maxRecDepth 100000 in
theorem sort_calls (bd : Int) (v : Value) (l : List Nogood) (w : World) (hv : NogoodsAt w v l) :
    Calls Tryd.prog 23 #[.agg #[.int .i64 bd, v]] w fun e w' => ∃ v', e = .returned (.agg #[.int .i64 bd, v']) ∧ OwnN w' w.heap.size v' (sortC bd l) ∧ Below w.heap.size w w' := by
  obtain ⟨A, n, c, rfl, hn, hm⟩ := hv.form
  obtain ⟨W0, hW0⟩ : ∃ W0, W0 = (w.alloc (.cells #[.int .i64 bd, .slice A n c] 25)).alloc (.cells #[.int .i64 0, .slice none 0 0] 25) := ⟨_, rfl⟩
  have hBW : Below w.heap.size w W0 := by rw [hW0]; exact belowA (belowA (Below.refl _ _) _) _
  have p0 : W0.cell? ⟨w.heap.size, 0, none⟩ = some (.int .i64 bd) := by rw [hW0]; simp
  have p1 : W0.cell? ⟨w.heap.size, 1, none⟩ = some (.slice A n c) := by rw [hW0]; simp
  have hrb : W0.heap[w.heap.size + 1]? = some (.cells #[.int .i64 0, .slice none 0 0] 25 (0, 0)) := by
    rw [hW0]
    have := heap_alloc_new (w.alloc (.cells #[.int .i64 bd, .slice A n c] 25)) (.cells #[.int .i64 0, .slice none 0 0] 25)
    simpa using this
  have hsz : w.heap.size + 2 = W0.heap.size := by rw [hW0]; simp
  have hv0 := hv.keep hBW
  have hcl := clone_calls bd _ l _ hv0
  have HV := Lib.hid hv
  have HN := Lib.hid hn
  have HW0 := Lib.hid hW0
  have HBW := Lib.hid hBW
  have HRB := Lib.hid hrb
  have HV0 := Lib.hid hv0
  have HCL := Lib.hid hcl
  have HSZ := Lib.hid hsz
  clear hv hn hW0 hBW hrb hv0 hcl hsz
  go_enter Tryd.func23, Tryd.ntmps23
  go_upto_region 1 with fail
  rw [← HW0.out]
  go_upto_region 2 with (go_at_call 43; refine HCL.out.mono ?_; rintro e w1 ⟨v1, rfl, hown, hb1⟩; obtain ⟨A1, c1, rfl⟩ := hown.form; obtain ⟨n1, hn1⟩ : ∃ n1, n1 = l.length := ⟨_, rfl⟩; rw [← hn1] at hown ⊢; have HOWN := Lib.hid hown; have HB1 := Lib.hid hb1; have HN1 := Lib.hid hn1; clear hown hb1 hn1)
  have hown := HOWN.out
  have hb1 := HB1.out
  have hn1 := HN1.out
  obtain ⟨W2, hW2⟩ : ∃ W2, W2 = w1.alloc (.cells #[.int .i64 bd, .slice A1 n1 c1] 25) := ⟨_, rfl⟩
  rw [← hW2]
  have hB2 : Below w1.heap.size w1 W2 := by rw [hW2]; exact belowA (Below.refl _ _) _
  have q3 : W2.heap[w1.heap.size]? = some (.cells #[.int .i64 bd, .slice A1 n1 c1] 25 (0, 0)) := by rw [hW2]; exact heap_alloc_new _ _
  have hB02 := belowT hb1 hB2
  have q0 := kept hB02 p0
  have q1 := kept hB02 p1
  have hlt1 := hown.lt
  have hck := check_calls bd _ l _ (HV0.out.keep hB02)
  have hown2 := hown.keep hB2
  have hsz1 : w1.heap.size < W2.heap.size := by rw [hW2]; simp
  have hs01 := hb1.size
  by_cases hz : checkF bd l = 0
  · have hso : sortC bd l = sortN l := if_pos hz
    have hlen := checkF_len hz
    rw [hz, errV_zero] at hck
    clear hown hb1 hn1
    have HW2 := Lib.hid hW2
    have HB2 := Lib.hid hB2
    have HQ3 := Lib.hid q3
    have HB02 := Lib.hid hB02
    have HLT1 := Lib.hid hlt1
    have HCK := Lib.hid hck
    have HOWN2 := Lib.hid hown2
    have HZ := Lib.hid hz
    have HSO := Lib.hid hso
    have HLEN := Lib.hid hlen
    clear hW2 hB2 q3 hB02 hlt1 hck hown2 hz hso hlen
    go_upto_region 4 with (go_at_call 13; refine HCK.out.mono ?_; rintro e w3 ⟨rfl, hb3⟩)
    have s3 := hb3.block _ hsz1
    rw [HQ3.out] at s3
    have r0 : w3.cell? ⟨w1.heap.size, 0, none⟩ = some (.int .i64 bd) := by simp [World.cell?, s3]
    have r1 : w3.cell? ⟨w1.heap.size, 1, none⟩ = some (.slice A1 n1 c1) := by simp [World.cell?, s3]
    have hst := sortOwn_calls _ _ l w3 (HOWN2.out.keep hb3) (by have := HLEN.out; omega)
    have HST := Lib.hid hst
    have HB3 := Lib.hid hb3
    have HS3 := Lib.hid s3
    clear hst hb3 s3
    go_upto_region 5 with (go_at_call 44; refine HST.out.mono ?_; rintro e w4 ⟨rfl, hown4, hg4⟩)
    have hne : ∀ b, b < W0.heap.size ∨ w1.heap.size ≤ b → some b ≠ (Value.slice A1 n1 c1).ownBlock := fun b hb e => by have := HLT1.out b e.symm; omega
    have s4 := hg4.block w1.heap.size (by have := HB3.out.size; omega) (hne _ (.inr (Nat.le_refl _)))
    rw [HS3.out] at s4
    have k0 : w4.cell? ⟨w1.heap.size, 0, none⟩ = some (.int .i64 bd) := by simp [World.cell?, s4]
    have k1 : w4.cell? ⟨w1.heap.size, 1, none⟩ = some (.slice A1 n1 c1) := by simp [World.cell?, s4]
    have b3 : Below W0.heap.size W0 w3 := belowT HB02.out HB3.out
    have b4 : Below W0.heap.size w3 w4 := below_of_grown hg4 b3.size (fun r e => (HLT1.out r e).1)
    have b04 := b3.trans b4
    have t4 := b04.block (w.heap.size + 1) (by have := HSZ.out; omega)
    rw [HRB.out] at t4
    have m0 : w4.cell? ⟨w.heap.size + 1, 0, none⟩ = some (.int .i64 0) := by simp [World.cell?, t4]
    have m1 : w4.cell? ⟨w.heap.size + 1, 1, none⟩ = some (.slice none 0 0) := by simp [World.cell?, t4]
    have kf : ∀ j, w4.frozen? ⟨w.heap.size + 1, j, none⟩ = false := fun j => by simp [World.frozen?, t4]
    have bw := belowT HBW.out b04
    have HOWN4 := Lib.hid hown4
    have HG4 := Lib.hid hg4
    have HS4 := Lib.hid s4
    have B3 := Lib.hid b3
    have B4 := Lib.hid b4
    have B04 := Lib.hid b04
    have T4 := Lib.hid t4
    have BW := Lib.hid bw
    have HNE := Lib.hid hne
    clear hown4 hg4 s4 b3 b4 b04 t4 bw hne
    go_wp2_with fail
    have t1 := set_block (i := 0) T4.out (.int .i64 bd) #[.int .i64 bd, .slice none 0 0] rfl
    have t2 := set_block (i := 1) t1 (.slice A1 n1 c1) #[.int .i64 bd, .slice A1 n1 c1] rfl
    have gg := World.grownBy.trans (set_grown (i := 0) T4.out (.int .i64 bd)) (set_grown (i := 1) t1 (.slice A1 n1 c1))
    generalize (w4.setCell ⟨w.heap.size + 1, 0, none⟩ (.int .i64 bd)).setCell ⟨w.heap.size + 1, 1, none⟩ (.slice A1 n1 c1) = wf at t2 gg ⊢
    have e0 : wf.cell? ⟨w.heap.size + 1, 0, none⟩ = some (.int .i64 bd) := by simp [World.cell?, t2]
    have e1 : wf.cell? ⟨w.heap.size + 1, 1, none⟩ = some (.slice A1 n1 c1) := by simp [World.cell?, t2]
    refine bodyPost_ret (v := .agg #[.int .i64 bd, .slice A1 n1 c1]) (by simp [results, Tryd.results23, go_sem, e0, e1]) rfl ⟨_, rfl, ?_, ?_⟩
    · rw [HSO.out]; exact (HOWN4.out.kept gg (fun r e => by injection e with e; have := HSZ.out; omega)).mono (by have := HSZ.out; omega)
    · exact BW.out.trans (below_of_grown gg BW.out.size (fun g hg => by injection hg with hg; omega))
  · have hso : sortC bd l = l := if_neg hz
    obtain ⟨z, hzz⟩ : ∃ z, checkF bd l = z := ⟨_, rfl⟩
    rw [hzz] at hck hz
    rw [errV_ne hz] at hck
    clear hown hb1 hn1
    have HW2 := Lib.hid hW2
    have HB2 := Lib.hid hB2
    have HQ3 := Lib.hid q3
    have HB02 := Lib.hid hB02
    have HLT1 := Lib.hid hlt1
    have HCK := Lib.hid hck
    have HOWN2 := Lib.hid hown2
    have HZ := Lib.hid hz
    have HSO := Lib.hid hso
    have HZZ := Lib.hid hzz
    clear hW2 hB2 q3 hB02 hlt1 hck hown2 hz hso hzz
    go_upto_region 3 with (go_at_call 13; refine HCK.out.mono ?_; rintro e w3 ⟨rfl, hb3⟩)
    have s3 := hb3.block _ hsz1
    rw [HQ3.out] at s3
    have k0 : w3.cell? ⟨w1.heap.size, 0, none⟩ = some (.int .i64 bd) := by simp [World.cell?, s3]
    have k1 : w3.cell? ⟨w1.heap.size, 1, none⟩ = some (.slice A1 n1 c1) := by simp [World.cell?, s3]
    have b04 : Below W0.heap.size W0 w3 := belowT HB02.out hb3
    have t4 := b04.block (w.heap.size + 1) (by have := HSZ.out; omega)
    rw [HRB.out] at t4
    have m0 : w3.cell? ⟨w.heap.size + 1, 0, none⟩ = some (.int .i64 0) := by simp [World.cell?, t4]
    have m1 : w3.cell? ⟨w.heap.size + 1, 1, none⟩ = some (.slice none 0 0) := by simp [World.cell?, t4]
    have kf : ∀ j, w3.frozen? ⟨w.heap.size + 1, j, none⟩ = false := fun j => by simp [World.frozen?, t4]
    have bw := belowT HBW.out b04
    have hown4 := HOWN2.out.keep hb3
    have HOWN4 := Lib.hid hown4
    have HB3 := Lib.hid hb3
    have HS3 := Lib.hid s3
    have B04 := Lib.hid b04
    have T4 := Lib.hid t4
    have BW := Lib.hid bw
    clear hown4 hb3 s3 b04 t4 bw
    go_wp2_with fail
    have t1 := set_block (i := 0) T4.out (.int .i64 bd) #[.int .i64 bd, .slice none 0 0] rfl
    have t2 := set_block (i := 1) t1 (.slice A1 n1 c1) #[.int .i64 bd, .slice A1 n1 c1] rfl
    have gg := World.grownBy.trans (set_grown (i := 0) T4.out (.int .i64 bd)) (set_grown (i := 1) t1 (.slice A1 n1 c1))
    generalize (w3.setCell ⟨w.heap.size + 1, 0, none⟩ (.int .i64 bd)).setCell ⟨w.heap.size + 1, 1, none⟩ (.slice A1 n1 c1) = wf at t2 gg ⊢
    have e0 : wf.cell? ⟨w.heap.size + 1, 0, none⟩ = some (.int .i64 bd) := by simp [World.cell?, t2]
    have e1 : wf.cell? ⟨w.heap.size + 1, 1, none⟩ = some (.slice A1 n1 c1) := by simp [World.cell?, t2]
    refine bodyPost_ret (v := .agg #[.int .i64 bd, .slice A1 n1 c1]) (by simp [results, Tryd.results23, go_sem, e0, e1]) rfl ⟨_, rfl, ?_, ?_⟩
    · rw [HSO.out]; exact (HOWN4.out.kept gg (fun r e => by injection e with e; have := HSZ.out; omega)).mono (by have := HSZ.out; omega)
    · exact BW.out.trans (below_of_grown gg BW.out.size (fun g hg => by injection hg with hg; omega))
end Go.Proofs.YticdfbhbbapbdaaDoor
/- stratagemref06.Value, partial.find; append of one fact. -/
namespace Go.Proofs.YticdfbhbbapbdaaDoor
open Go.RowKit

def valueF : List Fact → Int → Int
  | [], _ => -1
  | (x, y) :: r, v => if x = v then y else valueF r v

set_option maxHeartbeats 1000000 in
theorem value_calls (v : Value) (l : List Fact) (z : Int) (w : World) (hv : FactsAt w v l) :
    Calls Tryd.prog 64 #[v, .int .i64 z] w fun e w' => e = .returned (.int .i64 (valueF l z)) ∧ Below w.heap.size w w' := by
  obtain ⟨A, n, c, rfl, hn, hm⟩ := hv.form
  have HV := Lib.hid hv
  have HN := Lib.hid hn
  clear hv hn
  go_enter Tryd.func64, Tryd.ntmps64
  go_wp2
  go_loopg [9] n (fun g i wr => ∃ k : Nat, k ≤ n ∧ g = n - k ∧ i = .int .i64 k ∧ Below w.heap.size w wr ∧ valueF l z = valueF (l.drop k) z)
  case atStart => exact ⟨0, Nat.zero_le _, by omega, rfl, Below.refl _ _, rfl⟩
  case round =>
    obtain ⟨k, hk, hg, rfl, hB, hF⟩ := hrel
    have HG := Lib.hid hg
    have HF := Lib.hid hF
    clear hg hF
    by_cases hlt : k < n
    · obtain ⟨b, off, x, y, rfl, c0, c1, hx, hd⟩ := (HV.out.keep hB).at hlt
      have hbr : b < wr.heap.size := lt_of_cell c0
      have HX := Lib.hid hx
      have HD := Lib.hid hd
      clear hx hd
      by_cases hxz : x = z
      · have hb : (x == z) = true := by simpa using hxz
        have hfin : valueF l z = y := by rw [HF.out, HD.out, valueF, if_pos hxz]
        have HXZ := Lib.hid hxz
        have HFIN := Lib.hid hfin
        clear hxz hfin
        go_wp2
        go_ret
        exact ⟨by rw [HFIN.out]; rfl, belowA hB _⟩
      · have hb : (x == z) = false := by simpa using hxz
        have hnext : valueF l z = valueF (l.drop (k + 1)) z := by rw [HF.out, HD.out, valueF, if_neg hxz]
        have HXZ := Lib.hid hxz
        have HNEXT := Lib.hid hnext
        clear hxz hnext
        go_wp2
        go_roundg (n - (k + 1))
        case measure => have := HG.out; omega
        case rel => exact ⟨k + 1, by omega, rfl, by go_num, belowA hB _, HNEXT.out⟩
    · have hfin : valueF l z = -1 := by rw [HF.out, List.drop_eq_nil_of_le (by have := HN.out; omega), valueF]
      have HFIN := Lib.hid hfin
      clear hfin
      go_wp2
      go_ret
      exact ⟨by rw [HFIN.out]; rfl, hB⟩
set_option maxHeartbeats 1000000 in
theorem find_calls (v : Value) (l : List Fact) (z : Int) (w : World) (hv : FactsAt w v l) :
    Calls Tryd.prog 65 #[v, .int .i64 z] w fun e w' => e = .returned (.int .i64 (valueF l z)) ∧ Below w.heap.size w w' := by
  obtain ⟨A, n, c, rfl, hn, hm⟩ := hv.form
  have HV := Lib.hid hv
  have HN := Lib.hid hn
  clear hv hn
  go_enter Tryd.func65, Tryd.ntmps65
  go_wp2
  go_loopg [9] n (fun g i wr => ∃ k : Nat, k ≤ n ∧ g = n - k ∧ i = .int .i64 k ∧ Below w.heap.size w wr ∧ valueF l z = valueF (l.drop k) z)
  case atStart => exact ⟨0, Nat.zero_le _, by omega, rfl, Below.refl _ _, rfl⟩
  case round =>
    obtain ⟨k, hk, hg, rfl, hB, hF⟩ := hrel
    have HG := Lib.hid hg
    have HF := Lib.hid hF
    clear hg hF
    by_cases hlt : k < n
    · obtain ⟨b, off, x, y, rfl, c0, c1, hx, hd⟩ := (HV.out.keep hB).at hlt
      have hbr : b < wr.heap.size := lt_of_cell c0
      have HX := Lib.hid hx
      have HD := Lib.hid hd
      clear hx hd
      by_cases hxz : x = z
      · have hb : (x == z) = true := by simpa using hxz
        have hfin : valueF l z = y := by rw [HF.out, HD.out, valueF, if_pos hxz]
        have HXZ := Lib.hid hxz
        have HFIN := Lib.hid hfin
        clear hxz hfin
        go_wp2
        go_ret
        exact ⟨by rw [HFIN.out]; rfl, belowA hB _⟩
      · have hb : (x == z) = false := by simpa using hxz
        have hnext : valueF l z = valueF (l.drop (k + 1)) z := by rw [HF.out, HD.out, valueF, if_neg hxz]
        have HXZ := Lib.hid hxz
        have HNEXT := Lib.hid hnext
        clear hxz hnext
        go_wp2
        go_roundg (n - (k + 1))
        case measure => have := HG.out; omega
        case rel => exact ⟨k + 1, by omega, rfl, by go_num, belowA hB _, HNEXT.out⟩
    · have hfin : valueF l z = -1 := by rw [HF.out, List.drop_eq_nil_of_le (by have := HN.out; omega), valueF]
      have HFIN := Lib.hid hfin
      clear hfin
      go_wp2
      go_ret
      exact ⟨by rw [HFIN.out]; rfl, hB⟩

theorem reads_new (W : World) (x1 x2 : Int) : Reads (W.alloc (.cells #[.int .i64 x1, .int .i64 x2] 54)) (W.heap.size + 1) 2 (some ⟨W.heap.size, 0, none⟩) 1 (factCells [(x1, x2)]) := by
  refine ⟨rfl, fun _ => ⟨_, rfl, by simp, fun j u hu => ?_⟩⟩
  rw [add_plain]
  have hj : j < 2 := (List.getElem?_eq_some_iff.1 hu).1
  have hj2 : j = 0 ∨ j = 1 := by omega
  rcases hj2 with rfl | rfl
  · simp [factCells] at hu; subst hu; simp
  · simp [factCells] at hu; subst hu; simp

/-- 'out = append(out, fact)' on a row of the call's own -/
theorem wpList_append_fact {ops : Array Oper} {rest : List Oper} {o : Oper} {a : Act} {Q : Exit → Act → World → Prop} (hgd : o.guard = none) (s x : Operand)
    (ho : o.op = .call { callee := .builtin .append, args := #[s, x], argTypes := #[43, 43] })
    (W : World) (base : Nat) (v : Value) (l : List Fact) (x1 x2 : Int) (hs : a.eval s = v) (hown : OwnF W base v l) (hx : a.eval x = .slice (some ⟨W.heap.size, 0, none⟩) 1 1)
    (hlen : (l.length + 1) * 16 ≤ 140737488355328) (hbase : base ≤ W.heap.size)
    (h : ∀ v' w', OwnF w' base v' (l ++ [(x1, x2)]) → (W.alloc (.cells #[.int .i64 x1, .int .i64 x2] 54)).grownBy w' v.ownBlock → wpList Tryd.prog ops Q rest (a.put o.dst v') w') :
    wpList Tryd.prog ops Q (o :: rest) a (W.alloc (.cells #[.int .i64 x1, .int .i64 x2] 54)) := by
  obtain ⟨i0, hi0, hz0, hz1, hz2⟩ := info_parts factInfo
  refine wpList_append_any _ hgd s x _ ho base 54 i0 _ 2 16 Tryd.underlying43 hi0 hz0 hz1 hz2 rfl (by omega) v l.length (factCells l) hs (ownF_keep hown (belowA (Below.refl _ _) _)) _ _ 1 1 (factCells [(x1, x2)]) hx (reads_new W x1 x2) (factCells_one _) (by simp only [maxLen]; omega) hlen (by simp; omega) ?_
  intro v' w' h1 h2 _
  refine h v' w' ?_ h2
  unfold OwnF
  rw [factCells_append, List.length_append]
  exact h1

def withL (x : Fact) : Bool → List Fact → List Fact → List Fact
  | p, acc, [] => if p then acc else acc ++ [x]
  | p, acc, y :: r => if !p && decide (x.1 < y.1) then withL x true (acc ++ [x] ++ [y]) r else withL x p (acc ++ [y]) r
def withF (l : List Fact) (x : Fact) : List Fact := withL x false [] l

theorem grown_cell {w w' : World} {row : Option Nat} (hg : w.grownBy w' row) {p : Addr} {u : Value} (h : w.cell? p = some u) (hne : some p.block ≠ row) : w'.cell? p = some u := by
  rw [World.cell?_of_block (w := w) (hg.block p.block (lt_of_cell h) hne)]; exact h
theorem own_ne {w : World} {base : Nat} {e : TypeId} {size n : Nat} {v : Value} {xs : List Value} (h : w.ownsRow base e size v n xs) {b : Nat} (hb : b < base ∨ w.heap.size ≤ b) : some b ≠ v.ownBlock := by
  intro e1
  have := h.lt b e1.symm
  omega
end Go.Proofs.YticdfbhbbapbdaaDoor
/- Rows of nogoods of the call's own whose facts lie in an older world. -/
namespace Go.Proofs.YticdfbhbbapbdaaDoor
open Go.RowKit

/-- v is a row of the call's own in w that holds the nogoods l, their facts lie in w0 -/
def OwnR (w0 w : World) (base : Nat) (v : Value) (l : List Nogood) : Prop :=
  ∃ its : List Item, its.map (·.2) = l ∧ w.ownsRow base 45 2 v l.length (itemCells its) ∧ ∀ x ∈ its, FactsAt w0 (.slice x.1.1 x.1.2.1 x.1.2.2) x.2.1
theorem OwnR.nil_ (w0 w : World) (base : Nat) : OwnR w0 w base (.slice none 0 0) [] := ⟨[], rfl, ⟨rfl, .inl ⟨rfl, rfl⟩⟩, fun x hx => by cases hx⟩
theorem OwnR.form {w0 w : World} {base : Nat} {v : Value} {l : List Nogood} (h : OwnR w0 w base v l) : ∃ A c, v = .slice A l.length c := by
  obtain ⟨its, _, h, _⟩ := h
  rcases h.2 with ⟨rfl, h0⟩ | ⟨g, cap, cur, rfl, _⟩
  · exact ⟨none, 0, by rw [h0]⟩
  · exact ⟨_, _, rfl⟩
theorem OwnR.lt {w0 w : World} {base : Nat} {v : Value} {l : List Nogood} (h : OwnR w0 w base v l) : ∀ r, v.ownBlock = some r → base ≤ r ∧ r < w.heap.size := by
  obtain ⟨_, _, ho, _⟩ := h
  exact fun r hr => ho.lt r hr
theorem OwnR.kept {w0 w w' : World} {base : Nat} {v : Value} {l : List Nogood} {row : Option Nat} (h : OwnR w0 w base v l) (hg : w.grownBy w' row) (hr : ∀ r, row = some r → r < base) : OwnR w0 w' base v l := by
  obtain ⟨its, h1, h2, h3⟩ := h
  refine ⟨its, h1, h2.kept hg ?_, h3⟩
  cases ho : v.ownBlock with
  | none => exact .inl rfl
  | some k => exact .inr (fun e => by have a := (h2.lt k ho).1; have b := hr k e.symm; omega)
theorem OwnR.keep {w0 w w' : World} {base : Nat} {v : Value} {l : List Nogood} (h : OwnR w0 w base v l) (hb : Below w.heap.size w w') : OwnR w0 w' base v l := h.kept (grown_of_below hb none) (fun r e => by cases e)
theorem OwnR.mono {w0 w : World} {base base' : Nat} {v : Value} {l : List Nogood} (h : OwnR w0 w base v l) (hb : base' ≤ base) : OwnR w0 w base' v l := by
  obtain ⟨its, h1, h2, h3⟩ := h
  exact ⟨its, h1, own_mono h2 hb, h3⟩
theorem OwnR.nogoodsG {w0 w : World} {base : Nat} {v : Value} {l : List Nogood} (h : OwnR w0 w base v l) (hb : ∀ u x, FactsAt w0 u x → FactsAt w u x) (hl : l.length * 32 ≤ 140737488355328) : NogoodsAt w v l := by
  obtain ⟨its, h1, ho, h3⟩ := h
  have hlen : its.length = l.length := by rw [← h1]; simp
  rcases id ho.2 with ⟨rfl, h0⟩ | ⟨g, cap, cur, rfl, _⟩
  · have hnil : l = [] := List.length_eq_zero_iff.1 h0
    subst hnil
    exact ⟨none, 0, rfl, by simp, fun k x hx => by simp at hx⟩
  · refine ⟨some ⟨g, 0, none⟩, cap, rfl, hl, fun k x hx => ?_⟩
    have hk : k < l.length := (List.getElem?_eq_some_iff.1 hx).1
    have hit : its[k]? = some its[k] := List.getElem?_eq_getElem (by omega)
    have hx2 : its[k].2 = x := by
      rw [← h1, List.getElem?_map, hit] at hx
      injection hx
    obtain ⟨a, b⟩ := itemCells_at its k _ hit
    refine ⟨g, 0, _, rfl, ?_, hx2 ▸ hb _ _ (h3 its[k] (List.getElem_mem _)), ?_⟩
    · rw [Nat.zero_add, ho.cellAt (k * 2) (by omega)]
      exact a
    · rw [Nat.zero_add, ho.cellAt (k * 2 + 1) (by omega), ← hx2]
      exact b

theorem OwnR.nogoods {w0 w : World} {base : Nat} {v : Value} {l : List Nogood} (h : OwnR w0 w base v l) (hb : Below w0.heap.size w0 w) (hl : l.length * 32 ≤ 140737488355328) : NogoodsAt w v l := h.nogoodsG (fun _ _ hf => hf.keep hb) hl

theorem reads_newN (W : World) (x : Item) : Reads (W.alloc (.cells #[.slice x.1.1 x.1.2.1 x.1.2.2, .int .i64 x.2.2] 45)) (W.heap.size + 1) 2 (some ⟨W.heap.size, 0, none⟩) 1 (itemCells [x]) :=
  ⟨rfl, fun _ => ⟨_, rfl, by simp, cells_at (heap_alloc_new W (.cells #[.slice x.1.1 x.1.2.1 x.1.2.2, .int .i64 x.2.2] 45)) 0 _ (fun j u hu => by simpa [itemCells] using hu)⟩⟩

/-- 'out = append(out, nogood)' on a row of the call's own -/
theorem wpList_append_nogood {ops : Array Oper} {rest : List Oper} {o : Oper} {a : Act} {Q : Exit → Act → World → Prop} (hgd : o.guard = none) (s y : Operand)
    (ho : o.op = .call { callee := .builtin .append, args := #[s, y], argTypes := #[23, 23] })
    (w0 W : World) (base : Nat) (v : Value) (l : List Nogood) (xA : Option Addr) (xn xc : Nat) (x : Nogood) (hs : a.eval s = v) (hown : OwnR w0 W base v l) (hx : a.eval y = .slice (some ⟨W.heap.size, 0, none⟩) 1 1)
    (hlen : (l.length + 1) * 32 ≤ 140737488355328) (hbase : base ≤ W.heap.size) (hf : FactsAt w0 (.slice xA xn xc) x.1)
    (h : ∀ v' w', OwnR w0 w' base v' (l ++ [x]) → (W.alloc (.cells #[.slice xA xn xc, .int .i64 x.2] 45)).grownBy w' v.ownBlock → wpList Tryd.prog ops Q rest (a.put o.dst v') w') :
    wpList Tryd.prog ops Q (o :: rest) a (W.alloc (.cells #[.slice xA xn xc, .int .i64 x.2] 45)) := by
  obtain ⟨i0, hi0, hz0, hz1, hz2⟩ := info_parts nogoodInfo
  obtain ⟨its, h1, h2, h3⟩ := hown.keep (belowA (Below.refl _ _) (.cells #[.slice xA xn xc, .int .i64 x.2] 45))
  refine wpList_append_any _ hgd s y _ ho base 45 i0 _ 2 32 Tryd.underlying23 hi0 hz0 hz1 hz2 rfl (by omega) v l.length (itemCells its) hs h2 _ _ 1 1 (itemCells [((xA, xn, xc), x)]) hx (reads_newN W ((xA, xn, xc), x)) (itemCells_one _) (by simp only [maxLen]; omega) hlen (by simp; omega) ?_
  intro v' w' g1 g2 _
  refine h v' w' ⟨its ++ [((xA, xn, xc), x)], by simp [h1], ?_, fun z hz => ?_⟩ g2
  · rw [itemCells_append, List.length_append]; exact g1
  · rcases List.mem_append.1 hz with hz | hz
    · exact h3 z hz
    · simp at hz; subst hz; exact hf
end Go.Proofs.YticdfbhbbapbdaaDoor
/- stratagemref06.Is, partial.valid: is a list of facts a partial state? -/
namespace Go.Proofs.YticdfbhbbapbdaaDoor
open Go.RowKit

def badI (x y p : Int) (k : Nat) : Bool := decide (x < 0) || decide (y < 0) || (decide (0 < k) && decide (x ≤ p))
def isL : Nat → Int → List Fact → Bool
  | _, _, [] => true
  | k, p, (x, y) :: r => if badI x y p k then false else isL (k + 1) x r
def isF (l : List Fact) : Bool := isL 0 0 l

set_option maxHeartbeats 1000000 in
theorem is_calls (v : Value) (fs : List Fact) (w : World) (hv : FactsAt w v fs) :
    Calls Tryd.prog 31 #[v] w fun e w' => e = .returned (.bool (isF fs)) ∧ Below w.heap.size w w' := by
  obtain ⟨A, n, c, rfl, hn, hm⟩ := hv.form
  have HV := Lib.hid hv
  have HN := Lib.hid hn
  clear hv hn
  go_enter Tryd.func31, Tryd.ntmps31
  go_wp2
  go_loopg [7] n (fun g i wr => ∃ k p, k ≤ n ∧ g = n - k ∧ i = .int .i64 k ∧ Below w.heap.size w wr ∧ (∀ q, 0 < k → fs[k - 1]? = some q → p = q.1) ∧ isF fs = isL k p (fs.drop k))
  case atStart => exact ⟨0, 0, Nat.zero_le _, by omega, rfl, Below.refl _ _, fun _ h => absurd h (by omega), rfl⟩
  case round =>
    obtain ⟨k, p, hk, hg, rfl, hB, hp, hF⟩ := hrel
    have HG := Lib.hid hg
    have HP := Lib.hid hp
    have HF := Lib.hid hF
    clear hg hp hF
    by_cases hlt : k < n
    · obtain ⟨b, off, x, y, rfl, c0, c1, hx, hd⟩ := (HV.out.keep hB).at hlt
      have hbr : b < wr.heap.size := lt_of_cell c0
      have HX := Lib.hid hx
      have HD := Lib.hid hd
      clear hx hd
      have hprev : 0 < k → wr.cell? ⟨b, off + (k - 1) * 2, none⟩ = some (.int .i64 p) := by
        intro hk0
        obtain ⟨b', off', x', y', hA', p0, _, hx', _⟩ := (HV.out.keep hB).at (k := k - 1) (by omega)
        injection hA' with hA'
        injection hA' with hb' ho'
        subst hb' ho'
        have hpx := HP.out _ hk0 hx'
        simp only at hpx
        subst hpx
        exact p0
      have HPREV := Lib.hid hprev
      clear hprev
      go_upto_region 4 with fail
      go_cut [34] (fun s wx => s = .bool (badI x y p k) ∧ Below w.heap.size w wx)
      case first =>
        by_cases hk0 : 0 < k
        · have p0 := HPREV.out hk0
          have d0 : decide (0 < k) = true := by simpa using hk0
          refine wp_region_quiet_lit (by kernel_rfl) (by kernel_rfl) ?_
          repeat (any_goals (first | go_big_quiet_step (fail) | quiet_step (fail) | (refine wpQuiet_step (fun K hK => ?_); go_simp; split <;> (refine hK _ ?_; clear hK K))))
          all_goals (refine wpQuiet_nil ?_; intro _ hw'; obtain ⟨nq, hw''⟩ := hw'; subst hw'')
          all_goals (go_wp2_with fail; go_meet; exact ⟨by simp [badI, d0] <;> omega, below_drewN (belowA hB _) _⟩)
        · have d0 : decide (0 < k) = false := by simpa using hk0
          refine wp_region_quiet_lit (by kernel_rfl) (by kernel_rfl) ?_
          repeat (any_goals (first | go_big_quiet_step (fail) | quiet_step (fail) | (refine wpQuiet_step (fun K hK => ?_); go_simp; split <;> (refine hK _ ?_; clear hK K))))
          all_goals (refine wpQuiet_nil ?_; intro _ hw'; obtain ⟨nq, hw''⟩ := hw'; subst hw'')
          all_goals (go_wp2_with fail; go_meet; exact ⟨by simp [badI, d0] <;> omega, below_drewN (belowA hB _) _⟩)
      case rest =>
        obtain ⟨rfl, hB'⟩ := hcut
        cases hbad : badI x y p k
        · go_wp2
          go_roundg (n - (k + 1))
          case measure => have := HG.out; omega
          case rel =>
            refine ⟨k + 1, x, by omega, rfl, by go_num, hB', fun q _ hq => ?_, ?_⟩
            · rw [Nat.add_sub_cancel, HX.out] at hq; injection hq with hq; rw [← hq]
            · rw [HF.out, HD.out, isL, hbad]; rfl
        · go_wp2
          go_ret
          exact ⟨by rw [HF.out, HD.out, isL, hbad]; rfl, hB'⟩
    · go_wp2
      go_ret
      exact ⟨by rw [HF.out, List.drop_eq_nil_of_le (by have := HN.out; omega), isL]; rfl, hB⟩
set_option maxHeartbeats 1000000 in
theorem valid_calls (v : Value) (fs : List Fact) (w : World) (hv : FactsAt w v fs) :
    Calls Tryd.prog 51 #[v] w fun e w' => e = .returned (.bool (isF fs)) ∧ Below w.heap.size w w' := by
  obtain ⟨A, n, c, rfl, hn, hm⟩ := hv.form
  have HV := Lib.hid hv
  have HN := Lib.hid hn
  clear hv hn
  go_enter Tryd.func51, Tryd.ntmps51
  go_wp2
  go_loopg [7] n (fun g i wr => ∃ k p, k ≤ n ∧ g = n - k ∧ i = .int .i64 k ∧ Below w.heap.size w wr ∧ (∀ q, 0 < k → fs[k - 1]? = some q → p = q.1) ∧ isF fs = isL k p (fs.drop k))
  case atStart => exact ⟨0, 0, Nat.zero_le _, by omega, rfl, Below.refl _ _, fun _ h => absurd h (by omega), rfl⟩
  case round =>
    obtain ⟨k, p, hk, hg, rfl, hB, hp, hF⟩ := hrel
    have HG := Lib.hid hg
    have HP := Lib.hid hp
    have HF := Lib.hid hF
    clear hg hp hF
    by_cases hlt : k < n
    · obtain ⟨b, off, x, y, rfl, c0, c1, hx, hd⟩ := (HV.out.keep hB).at hlt
      have hbr : b < wr.heap.size := lt_of_cell c0
      have HX := Lib.hid hx
      have HD := Lib.hid hd
      clear hx hd
      have hprev : 0 < k → wr.cell? ⟨b, off + (k - 1) * 2, none⟩ = some (.int .i64 p) := by
        intro hk0
        obtain ⟨b', off', x', y', hA', p0, _, hx', _⟩ := (HV.out.keep hB).at (k := k - 1) (by omega)
        injection hA' with hA'
        injection hA' with hb' ho'
        subst hb' ho'
        have hpx := HP.out _ hk0 hx'
        simp only at hpx
        subst hpx
        exact p0
      have HPREV := Lib.hid hprev
      clear hprev
      go_upto_region 4 with fail
      go_cut [34] (fun s wx => s = .bool (badI x y p k) ∧ Below w.heap.size w wx)
      case first =>
        by_cases hk0 : 0 < k
        · have p0 := HPREV.out hk0
          have d0 : decide (0 < k) = true := by simpa using hk0
          refine wp_region_quiet_lit (by kernel_rfl) (by kernel_rfl) ?_
          repeat (any_goals (first | go_big_quiet_step (fail) | quiet_step (fail) | (refine wpQuiet_step (fun K hK => ?_); go_simp; split <;> (refine hK _ ?_; clear hK K))))
          all_goals (refine wpQuiet_nil ?_; intro _ hw'; obtain ⟨nq, hw''⟩ := hw'; subst hw'')
          all_goals (go_wp2_with fail; go_meet; exact ⟨by simp [badI, d0] <;> omega, below_drewN (belowA hB _) _⟩)
        · have d0 : decide (0 < k) = false := by simpa using hk0
          refine wp_region_quiet_lit (by kernel_rfl) (by kernel_rfl) ?_
          repeat (any_goals (first | go_big_quiet_step (fail) | quiet_step (fail) | (refine wpQuiet_step (fun K hK => ?_); go_simp; split <;> (refine hK _ ?_; clear hK K))))
          all_goals (refine wpQuiet_nil ?_; intro _ hw'; obtain ⟨nq, hw''⟩ := hw'; subst hw'')
          all_goals (go_wp2_with fail; go_meet; exact ⟨by simp [badI, d0] <;> omega, below_drewN (belowA hB _) _⟩)
      case rest =>
        obtain ⟨rfl, hB'⟩ := hcut
        cases hbad : badI x y p k
        · go_wp2
          go_roundg (n - (k + 1))
          case measure => have := HG.out; omega
          case rel =>
            refine ⟨k + 1, x, by omega, rfl, by go_num, hB', fun q _ hq => ?_, ?_⟩
            · rw [Nat.add_sub_cancel, HX.out] at hq; injection hq with hq; rw [← hq]
            · rw [HF.out, HD.out, isL, hbad]; rfl
        · go_wp2
          go_ret
          exact ⟨by rw [HF.out, HD.out, isL, hbad]; rfl, hB'⟩
    · go_wp2
      go_ret
      exact ⟨by rw [HF.out, List.drop_eq_nil_of_le (by have := HN.out; omega), isL]; rfl, hB⟩
end Go.Proofs.YticdfbhbbapbdaaDoor
/- stratagemref30.Check returns the number of the error of certificate.Check. -/
namespace Go.Proofs.YticdfbhbbapbdaaDoor
open Go.RowKit

def bigF (x : Fact) : Bool := decide (64 ≤ x.1) || decide (64 ≤ x.2)
theorem formedL_is (l : List Fact) : ∀ (k : Nat) (p : Int), formedL k p l = (isL k p l && !l.any bigF) := by
  induction l with
  | nil => intro k p; rfl
  | cons x r ih =>
    obtain ⟨x, y⟩ := x
    intro k p
    rw [formedL, isL, ih]
    have hb : badB x y p k = (badI x y p k || bigF (x, y)) := by
      rw [Bool.eq_iff_iff]; simp [badB, badI, bigF]; omega
    rw [hb]
    cases hI : badI x y p k <;> cases hG : bigF (x, y) <;> simp [hG]
theorem formedF_is (l : List Fact) : formedF l = (isF l && !l.any bigF) := formedL_is l 0 0

set_option maxHeartbeats 1000000 in
theorem rcheck_calls (bd : Int) (v : Value) (l : List Nogood) (w : World) (hv : NogoodsAt w v l) :
    Calls Tryd.prog 14 #[.agg #[.int .i64 bd, v]] w fun e w' => e = .returned (.int .i64 (checkF bd l)) ∧ Below w.heap.size w w' := by
  obtain ⟨A, n, c, rfl, hn, hm⟩ := hv.form
  have HV := Lib.hid hv
  have HN := Lib.hid hn
  clear hv hn
  go_enter Tryd.func14, Tryd.ntmps14
  by_cases h1 : bd < -1 ∨ 1099511627776 < bd
  · have hfin : checkF bd l = 1 := by rw [checkF, if_pos h1]
    have HFIN := Lib.hid hfin
    clear hfin
    go_wp2
    all_goals (go_ret; exact ⟨by rw [HFIN.out]; rfl, belowA (Below.refl _ _) _⟩)
  · have hb1 : -1 ≤ bd := by omega
    have hb2 : bd ≤ 1099511627776 := by omega
    by_cases h2 : 4096 < n
    · have hfin : checkF bd l = 5 := by rw [checkF, if_neg h1, if_pos (by have := HN.out; omega)]
      have HFIN := Lib.hid hfin
      clear hfin
      clear h1
      go_wp2
      go_ret
      exact ⟨by rw [HFIN.out]; rfl, belowA (Below.refl _ _) _⟩
    · have hfin : checkF bd l = if l.all (fun x => formedF x.1) = false then 2 else if l.any (fun x => badDist bd x.2) then 1 else 0 := by
        rw [checkF, if_neg h1, if_neg (by have := HN.out; omega)]
      have HFIN := Lib.hid hfin
      clear hfin
      clear h1
      go_wp2
      go_loopg [24] n (fun g i wr => ∃ k : Nat, k ≤ n ∧ g = n - k ∧ i = .int .i64 k ∧ Below w.heap.size w wr ∧ wr.cell? ⟨w.heap.size, 0, none⟩ = some (.int .i64 bd) ∧ wr.cell? ⟨w.heap.size, 1, none⟩ = some (.slice A n c) ∧ l.all (fun x => formedF x.1) = (l.drop k).all (fun x => formedF x.1))
      case atStart => exact ⟨0, Nat.zero_le _, by omega, rfl, belowA (Below.refl _ _) _, by simp [World.cell?_alloc_new], by simp [World.cell?_alloc_new], rfl⟩
      case round =>
        obtain ⟨k, hk, hg, rfl, hB, hc0, hc1, hF⟩ := hrel
        have HG := Lib.hid hg
        have HF := Lib.hid hF
        clear hg hF
        by_cases hlt : k < n
        · obtain ⟨b, off, fA, fn, fc, fs, d, rfl, c0, hfn, hfm, hfs, c1, hx, hd⟩ := (HV.out.keep hB).at hlt
          have hbr : b < wr.heap.size := lt_of_cell c0
          have hbw : w.heap.size < wr.heap.size := lt_of_cell hc0
          have HX := Lib.hid hx
          have HD := Lib.hid hd
          have HFS := Lib.hid hfs
          have HFN := Lib.hid hfn
          clear hx hd hfs hfn
          cases his : isF fs
          · have hform : formedF fs = false := by rw [formedF_is, his]; rfl
            have HIS := Lib.hid his
            have HFO := Lib.hid hform
            clear his hform
            go_wp2_with (go_at_call 31; refine (is_calls _ fs _ (HFS.out.keep (belowA (Below.refl _ _) _))).mono ?_; rw [HIS.out]; rintro e w' ⟨rfl, hb'⟩)
            go_ret
            exact ⟨by rw [HFIN.out, HF.out, HD.out]; simp [HFO.out], belowT (belowA hB _) hb'⟩
          · have HIS := Lib.hid his
            clear his
            go_wp2_with (go_at_call 31; refine (is_calls _ fs _ (HFS.out.keep (belowA (Below.refl _ _) _))).mono ?_; rw [HIS.out]; rintro e w' ⟨rfl, hb'⟩; have q0 : w'.cell? ⟨wr.heap.size, 0, none⟩ = some (.slice fA fn fc) := kept hb' (by simp [World.cell?_alloc_new]))
            have hBw' : Below w.heap.size w w' := belowT (belowA hB _) hb'
            have hc0' := kept hb' (kept (belowA (Below.refl wr.heap.size wr) (.cells #[.slice fA fn fc, .int .i64 d] 45)) hc0)
            have hc1' := kept hb' (kept (belowA (Below.refl wr.heap.size wr) (.cells #[.slice fA fn fc, .int .i64 d] 45)) hc1)
            have hfs' := HFS.out.keep ((belowA (Below.refl wr.heap.size wr) (.cells #[.slice fA fn fc, .int .i64 d] 45)).trans (hb'.mono (by simp)))
            have HFS2 := Lib.hid hfs'
            have HC0 := Lib.hid hc0'
            have HC1 := Lib.hid hc1'
            clear hfs' hc0' hc1'
            clear hc0 hc1 hb' c0 c1 q0
            obtain ⟨wo, rfl⟩ : ∃ wo : World, wo = wr := ⟨_, rfl⟩
            go_loopg [35] fn (fun g i wx => ∃ j : Nat, j ≤ fn ∧ g = fn - j ∧ i = .int .i64 j ∧ Below w.heap.size w wx ∧ wx.cell? ⟨w.heap.size, 0, none⟩ = some (.int .i64 bd) ∧ wx.cell? ⟨w.heap.size, 1, none⟩ = some (.slice (some ⟨b, off, none⟩) n c) ∧ FactsAt wx (.slice fA fn fc) fs ∧ fs.any bigF = (fs.drop j).any bigF)
            case atStart => exact ⟨0, Nat.zero_le _, by omega, rfl, hBw', HC0.out, HC1.out, HFS2.out, rfl⟩
            case round =>
              obtain ⟨j, hj, hg', rfl, hBx, hcx0, hcx1, hfx, hFx⟩ := hrel
              have HG2 := Lib.hid hg'
              have HFX := Lib.hid hFx
              have HFSX := Lib.hid hfx
              clear hg' hFx hfx
              by_cases hjt : j < fn
              · obtain ⟨b2, off2, x, y, rfl, c0, c1, hx2, hd2⟩ := HFSX.out.at hjt
                have hbr2 : b2 < wr.heap.size := lt_of_cell c0
                have hbw2 : w.heap.size < wr.heap.size := lt_of_cell hcx0
                have HX2 := Lib.hid hx2
                have HD2 := Lib.hid hd2
                clear hx2 hd2
                go_upto_region 13 with fail
                go_cut [46] (fun s wx => s = .bool (bigF (x, y)) ∧ Below wr.heap.size wr wx)
                case first =>
                  go_wp2_with fail
                  all_goals (go_meet; exact ⟨by rw [Value.bool.injEq, Bool.eq_iff_iff]; simp [bigF] <;> omega, belowA (Below.refl _ _) _⟩)
                case rest =>
                  obtain ⟨rfl, hB'⟩ := hcut
                  cases hbad : bigF (x, y)
                  · go_wp2
                    go_roundg (fn - (j + 1))
                    case measure => have := HG2.out; omega
                    case rel => exact ⟨j + 1, by omega, rfl, by go_num, belowT hBx hB', kept hB' hcx0, kept hB' hcx1, HFSX.out.keep hB', by rw [HFX.out, HD2.out]; simp [hbad]⟩
                  · go_wp2
                    go_ret
                    have hform : formedF fs = false := by rw [formedF_is, HFX.out, HD2.out]; simp [hbad]
                    exact ⟨by rw [HFIN.out, HF.out, HD.out]; simp [hform], belowT hBx hB'⟩
              · have hform : formedF fs = true := by rw [formedF_is, HIS.out, HFX.out, List.drop_eq_nil_of_le (by have := HFN.out; omega)]; rfl
                have HFO := Lib.hid hform
                clear hform
                go_wp2
                go_roundg (n - (k + 1))
                case measure => have := HG.out; omega
                case rel => exact ⟨k + 1, by omega, rfl, by go_num, hBx, hcx0, hcx1, by rw [HF.out, HD.out]; simp [HFO.out]⟩
        · have hall : l.all (fun x => formedF x.1) = true := by rw [HF.out, List.drop_eq_nil_of_le (by have := HN.out; omega)]; rfl
          have hfin2 : checkF bd l = if l.any (fun x => badDist bd x.2) then 1 else 0 := by rw [HFIN.out, hall]; simp
          have HFIN2 := Lib.hid hfin2
          clear hfin2
          clear hall
          have hbw : w.heap.size < wr.heap.size := lt_of_cell hc0
          go_wp2
          obtain ⟨wo, rfl⟩ : ∃ wo : World, wo = wr := ⟨_, rfl⟩
          go_loopg [52] n (fun g i wr => ∃ k : Nat, k ≤ n ∧ g = n - k ∧ i = .int .i64 k ∧ Below w.heap.size w wr ∧ wr.cell? ⟨w.heap.size, 0, none⟩ = some (.int .i64 bd) ∧ l.any (fun x => badDist bd x.2) = (l.drop k).any (fun x => badDist bd x.2))
          case atStart => exact ⟨0, Nat.zero_le _, by omega, rfl, hB, hc0, rfl⟩
          case round =>
            clear HF HG hlt hc0 hc1 hB hbw
            obtain ⟨j, hj, hg, rfl, hB, hc0, hF⟩ := hrel
            have HG := Lib.hid hg
            have HF := Lib.hid hF
            clear hg hF
            by_cases hlt : j < n
            · obtain ⟨b, off, fA, fn, fc, fs, d, rfl, c0, hfn, hfm, hfs, c1, hx, hd⟩ := (HV.out.keep hB).at hlt
              have hbr : b < wr.heap.size := lt_of_cell c0
              have hbw : w.heap.size < wr.heap.size := lt_of_cell hc0
              have HX := Lib.hid hx
              have HD := Lib.hid hd
              have HFS := Lib.hid hfs
              have HFN := Lib.hid hfn
              clear hx hd hfs hfn
              go_upto_region 20 with fail
              go_cut [80] (fun s wx => s = .bool (badDist bd d) ∧ Below w.heap.size w wx ∧ wx.cell? ⟨w.heap.size, 0, none⟩ = some (.int .i64 bd))
              case first =>
                go_wp2_with fail
                all_goals (go_meet; exact ⟨by rw [Value.bool.injEq, Bool.eq_iff_iff]; simp [badDist] <;> omega, belowA hB _, kept (belowA (Below.refl _ _) _) hc0⟩)
              case rest =>
                obtain ⟨rfl, hB', hc'⟩ := hcut
                cases hbad : badDist bd d
                · go_wp2
                  go_roundg (n - (j + 1))
                  case measure => have := HG.out; omega
                  case rel => exact ⟨j + 1, by omega, rfl, by go_num, hB', hc', by rw [HF.out, HD.out]; simp [hbad]⟩
                · go_wp2
                  go_ret
                  exact ⟨by rw [HFIN2.out, HF.out, HD.out]; simp [hbad], hB'⟩
            · go_wp2
              go_ret
              exact ⟨by rw [HFIN2.out, HF.out, List.drop_eq_nil_of_le (by have := HN.out; omega)]; rfl, hB⟩
end Go.Proofs.YticdfbhbbapbdaaDoor
/- partial.contains, partial.Contains, stratagemref06.Contains, stratagemref06.Clash. -/
namespace Go.Proofs.YticdfbhbbapbdaaDoor
open Go.RowKit

def containsF (a b : List Fact) : Bool := b.all fun x => valueF a x.1 == x.2
def ContainsF (a b : List Fact) : Bool := isF a && isF b && containsF a b
def clashF (a b : List Fact) : Bool := a.any fun x => decide (0 ≤ valueF b x.1) && (valueF b x.1 != x.2)


set_option maxHeartbeats 1000000 in
theorem contains_calls (u v : Value) (a b : List Fact) (w : World) (hu : FactsAt w u a) (hv : FactsAt w v b) :
    Calls Tryd.prog 52 #[u, v] w fun e w' => e = .returned (.bool (containsF a b)) ∧ Below w.heap.size w w' := by
  obtain ⟨A, n, c, rfl, hn, hm⟩ := hv.form
  obtain ⟨A', n', c', rfl, hn', hm'⟩ := hu.form
  have HU := Lib.hid hu
  have HV := Lib.hid hv
  have HN := Lib.hid hn
  have HN' := Lib.hid hn'
  clear hu hv hn hn'
  go_enter Tryd.func52, Tryd.ntmps52
  go_wp2
  go_loopg [9] n (fun g i wr => ∃ k : Nat, k ≤ n ∧ g = n - k ∧ i = .int .i64 k ∧ Below w.heap.size w wr ∧ containsF a b = containsF a (b.drop k))
  case atStart => exact ⟨0, Nat.zero_le _, by omega, rfl, Below.refl _ _, rfl⟩
  case round =>
    obtain ⟨k, hk, hg, rfl, hB, hF⟩ := hrel
    have HG := Lib.hid hg
    have HF := Lib.hid hF
    clear hg hF
    by_cases hlt : k < n
    · obtain ⟨bb, off, x, y, rfl, c0, c1, hx, hd⟩ := (HV.out.keep hB).at hlt
      have hbr : bb < wr.heap.size := lt_of_cell c0
      have hau := HU.out.keep hB
      have hb0 : Below wr.heap.size wr (wr.alloc (.cells #[.int .i64 x, .int .i64 y] 54)).drew := (belowA (Below.refl _ _) _).drew
      have hvc := find_calls _ a x _ (hau.keep hb0)
      have HX := Lib.hid hx
      have HD := Lib.hid hd
      have HAU := Lib.hid hau
      have HVC := Lib.hid hvc
      have HB0 := Lib.hid hb0
      clear hx hd hau hvc hb0
      go_upto_region 4 with fail
      go_cut [19] (fun t wx => t = .bool (valueF a x != y) ∧ Below w.heap.size w wx)
      case first =>
        go_region_held3 (fun w' => w'.cell? ⟨wr.heap.size, 0, none⟩ = some (.int .i64 x) ∧ w'.cell? ⟨wr.heap.size, 1, none⟩ = some (.int .i64 y))
          (first | exact ⟨q0, q1⟩ | exact ⟨by simp, by simp⟩)
          (first
            | (go_at_call 65; refine HVC.out.mono ?_; rintro e w1 ⟨rfl, hb1⟩; have q0 : w1.cell? ⟨wr.heap.size, 0, none⟩ = some (.int .i64 x) := kept hb1 (by simp); have q1 : w1.cell? ⟨wr.heap.size, 1, none⟩ = some (.int .i64 y) := kept hb1 (by simp); have HB1 := Lib.hid (belowT hB (belowT HB0.out hb1)); clear hb1)
            | fail)
        all_goals (go_wp2_with fail; go_meet; exact ⟨rfl, HB1.out⟩)
      case rest =>
        obtain ⟨rfl, hB'⟩ := hcut
        cases hbad : (valueF a x != y)
        · have hnext : containsF a b = containsF a (b.drop (k + 1)) := by
            rw [HF.out, HD.out]
            have : (valueF a x == y) = true := by simpa using hbad
            simp [containsF, this]
          have HNEXT := Lib.hid hnext
          clear hnext
          go_wp2
          go_roundg (n - (k + 1))
          case measure => have := HG.out; omega
          case rel => exact ⟨k + 1, by omega, rfl, by go_num, hB', HNEXT.out⟩
        · have hfin : containsF a b = false := by
            rw [HF.out, HD.out]
            have : (valueF a x == y) = false := by simpa using hbad
            simp [containsF, this]
          have HFIN := Lib.hid hfin
          clear hfin
          go_wp2
          go_ret
          exact ⟨by skip; rw [HFIN.out]; rfl, hB'⟩
    · have hfin : containsF a b = true := by rw [HF.out, List.drop_eq_nil_of_le (by have := HN.out; omega)]; rfl
      have HFIN := Lib.hid hfin
      clear hfin
      go_wp2
      go_ret
      exact ⟨by skip; rw [HFIN.out]; rfl, hB⟩

set_option maxHeartbeats 1000000 in
theorem Contains_calls (u v : Value) (a b : List Fact) (w : World) (hu : FactsAt w u a) (hv : FactsAt w v b) :
    Calls Tryd.prog 27 #[u, v] w fun e w' => e = .returned (.bool (ContainsF a b)) ∧ Below w.heap.size w w' := by
  obtain ⟨A, n, c, rfl, hn, hm⟩ := hv.form
  obtain ⟨A', n', c', rfl, hn', hm'⟩ := hu.form
  have h1 := valid_calls _ a w hu
  have h2 := fun (W : World) (hb : Below w.heap.size w W) => valid_calls _ b W (hv.keep hb)
  have h3 := fun (W : World) (hb : Below w.heap.size w W) => contains_calls _ _ a b W (hu.keep hb) (hv.keep hb)
  unfold ContainsF
  cases ha : isF a
  · rw [ha] at h1
    have H1 := Lib.hid h1
    have H2 := Lib.hid h2
    have H3 := Lib.hid h3
    have HA := Lib.hid ha
    have HU := Lib.hid hu
    have HV := Lib.hid hv
    have HN := Lib.hid hn
    have HN' := Lib.hid hn'
    clear h1 h2 h3 ha hu hv hn hn'
    go_enter Tryd.func27, Tryd.ntmps27
    go_wp2_with (go_at_call_of 51 (Value.slice A' n' c'); refine H1.out.mono ?_; rintro e w1 ⟨rfl, hb1⟩)
    go_ret
    exact ⟨by simp, hb1⟩
  · cases hb : isF b
    · rw [ha] at h1
      rw [hb] at h2
      have H1 := Lib.hid h1
      have H2 := Lib.hid h2
      have H3 := Lib.hid h3
      have HA := Lib.hid ha
      have HB := Lib.hid hb
      have HU := Lib.hid hu
      have HV := Lib.hid hv
      have HN := Lib.hid hn
      have HN' := Lib.hid hn'
      clear h1 h2 h3 ha hb hu hv hn hn'
      go_enter Tryd.func27, Tryd.ntmps27
      go_wp2_with fail
      refine H1.out.mono ?_
      rintro e w1 ⟨rfl, hb1⟩
      go_wp2_with fail
      refine (H2.out _ hb1).mono ?_
      rintro e w2 ⟨rfl, hb2⟩
      go_wp2_with fail
      go_ret
      exact ⟨by simp, belowT hb1 hb2⟩
    · rw [ha] at h1
      rw [hb] at h2
      have H1 := Lib.hid h1
      have H2 := Lib.hid h2
      have H3 := Lib.hid h3
      have HA := Lib.hid ha
      have HB := Lib.hid hb
      have HU := Lib.hid hu
      have HV := Lib.hid hv
      have HN := Lib.hid hn
      have HN' := Lib.hid hn'
      clear h1 h2 h3 ha hb hu hv hn hn'
      go_enter Tryd.func27, Tryd.ntmps27
      go_wp2_with fail
      refine H1.out.mono ?_
      rintro e w1 ⟨rfl, hb1⟩
      go_wp2_with fail
      refine (H2.out _ hb1).mono ?_
      rintro e w2 ⟨rfl, hb2⟩
      go_wp2_with fail
      refine (H3.out _ (belowT hb1 hb2)).mono ?_
      rintro e w3 ⟨rfl, hb3⟩
      go_wp2_with fail
      go_ret
      exact ⟨by simp, belowT (belowT hb1 hb2) hb3⟩

set_option maxHeartbeats 1000000 in
theorem rContains_calls (u v : Value) (a b : List Fact) (w : World) (hu : FactsAt w u a) (hv : FactsAt w v b) :
    Calls Tryd.prog 50 #[u, v] w fun e w' => e = .returned (.bool (ContainsF a b)) ∧ Below w.heap.size w w' := by
  obtain ⟨A, n, c, rfl, hn, hm⟩ := hv.form
  obtain ⟨A', n', c', rfl, hn', hm'⟩ := hu.form
  have h1 := is_calls _ a w hu
  have h2 := fun (W : World) (hb : Below w.heap.size w W) => is_calls _ b W (hv.keep hb)
  cases ha : isF a
  · have hfin : ContainsF a b = false := by simp [ContainsF, ha]
    rw [hfin]
    rw [ha] at h1
    have H1 := Lib.hid h1
    have H2 := Lib.hid h2
    have HA := Lib.hid ha
    have HU := Lib.hid hu
    have HV := Lib.hid hv
    have HN := Lib.hid hn
    have HN' := Lib.hid hn'
    have HFIN := Lib.hid hfin
    clear h1 h2 ha hu hv hn hn' hfin
    go_enter Tryd.func50, Tryd.ntmps50
    go_wp2_with (go_at_call 31; refine H1.out.mono ?_; rintro e w1 ⟨rfl, hb1⟩)
    go_ret
    exact ⟨rfl, hb1⟩
  · cases hb : isF b
    · have hfin : ContainsF a b = false := by simp [ContainsF, hb]
      rw [hfin]
      rw [ha] at h1
      rw [hb] at h2
      have H1 := Lib.hid h1
      have H2 := Lib.hid h2
      have HA := Lib.hid ha
      have HB := Lib.hid hb
      have HU := Lib.hid hu
      have HV := Lib.hid hv
      have HN := Lib.hid hn
      have HN' := Lib.hid hn'
      have HFIN := Lib.hid hfin
      clear h1 h2 ha hb hu hv hn hn' hfin
      go_enter Tryd.func50, Tryd.ntmps50
      go_wp2_with fail
      refine H1.out.mono ?_
      rintro e w1 ⟨rfl, hb1⟩
      go_wp2_with fail
      refine (H2.out _ hb1).mono ?_
      rintro e w2 ⟨rfl, hb2⟩
      go_wp2_with fail
      go_ret
      exact ⟨rfl, belowT hb1 hb2⟩
    · have hcf : ContainsF a b = containsF a b := by simp [ContainsF, ha, hb]
      rw [ha] at h1
      rw [hb] at h2
      have H1 := Lib.hid h1
      have H2 := Lib.hid h2
      have HA := Lib.hid ha
      have HB := Lib.hid hb
      have HU := Lib.hid hu
      have HV := Lib.hid hv
      have HN := Lib.hid hn
      have HN' := Lib.hid hn'
      have HCF := Lib.hid hcf
      clear h1 h2 ha hb hu hv hn hn' hcf
      go_enter Tryd.func50, Tryd.ntmps50
      go_wp2_with fail
      refine H1.out.mono ?_
      rintro e w1 ⟨rfl, hb1⟩
      go_wp2_with fail
      refine (H2.out _ hb1).mono ?_
      rintro e w2 ⟨rfl, hb2⟩
      have hbw2 := belowT hb1 hb2
      clear hb1 hb2
      go_wp2_with fail
      go_loopg [17] n (fun g i wr => ∃ k : Nat, k ≤ n ∧ g = n - k ∧ i = .int .i64 k ∧ Below w.heap.size w wr ∧ containsF a b = containsF a (b.drop k))
      case atStart => exact ⟨0, Nat.zero_le _, by omega, rfl, hbw2, rfl⟩
      case round =>
        obtain ⟨k, hk, hg, rfl, hB, hF⟩ := hrel
        have HG := Lib.hid hg
        have HF := Lib.hid hF
        clear hg hF
        by_cases hlt : k < n
        · obtain ⟨bb, off, x, y, rfl, c0, c1, hx, hd⟩ := (HV.out.keep hB).at hlt
          have hbr : bb < wr.heap.size := lt_of_cell c0
          have hau := HU.out.keep hB
          have hb0 : Below wr.heap.size wr (wr.alloc (.cells #[.int .i64 x, .int .i64 y] 54)).drew := (belowA (Below.refl _ _) _).drew
          have hvc := value_calls _ a x _ (hau.keep hb0)
          have HX := Lib.hid hx
          have HD := Lib.hid hd
          have HAU := Lib.hid hau
          have HVC := Lib.hid hvc
          have HB0 := Lib.hid hb0
          clear hx hd hau hvc hb0
          go_upto_region 6 with fail
          go_cut [27] (fun t wx => t = .bool (valueF a x != y) ∧ Below w.heap.size w wx)
          case first =>
            go_region_held3 (fun w' => w'.cell? ⟨wr.heap.size, 0, none⟩ = some (.int .i64 x) ∧ w'.cell? ⟨wr.heap.size, 1, none⟩ = some (.int .i64 y))
              (first | exact ⟨q0, q1⟩ | exact ⟨by simp, by simp⟩)
              (first
                | (go_at_call 64; refine HVC.out.mono ?_; rintro e w1 ⟨rfl, hb1⟩; have q0 : w1.cell? ⟨wr.heap.size, 0, none⟩ = some (.int .i64 x) := kept hb1 (by simp); have q1 : w1.cell? ⟨wr.heap.size, 1, none⟩ = some (.int .i64 y) := kept hb1 (by simp); have HB1 := Lib.hid (belowT hB (belowT HB0.out hb1)); clear hb1)
                | fail)
            all_goals (go_wp2_with fail; go_meet; exact ⟨rfl, HB1.out⟩)
          case rest =>
            obtain ⟨rfl, hB'⟩ := hcut
            cases hbad : (valueF a x != y)
            · have hnext : containsF a b = containsF a (b.drop (k + 1)) := by
                rw [HF.out, HD.out]
                have : (valueF a x == y) = true := by simpa using hbad
                simp [containsF, this]
              have HNEXT := Lib.hid hnext
              clear hnext
              go_wp2
              go_roundg (n - (k + 1))
              case measure => have := HG.out; omega
              case rel => exact ⟨k + 1, by omega, rfl, by go_num, hB', HNEXT.out⟩
            · have hfin : containsF a b = false := by
                rw [HF.out, HD.out]
                have : (valueF a x == y) = false := by simpa using hbad
                simp [containsF, this]
              have HFIN := Lib.hid hfin
              clear hfin
              go_wp2
              go_ret
              exact ⟨by rw [HCF.out]; rw [HFIN.out]; rfl, hB'⟩
        · have hfin : containsF a b = true := by rw [HF.out, List.drop_eq_nil_of_le (by have := HN.out; omega)]; rfl
          have HFIN := Lib.hid hfin
          clear hfin
          go_wp2
          go_ret
          exact ⟨by rw [HCF.out]; rw [HFIN.out]; rfl, hB⟩
end Go.Proofs.YticdfbhbbapbdaaDoor
/- stratagemref30.Reduce. -/
namespace Go.Proofs.YticdfbhbbapbdaaDoor
open Go.RowKit

def skipN (i k : Nat) (a b : Nogood) : Bool := decide (k = i) || decide (a.2 < b.2) || !ContainsF a.1 b.1
def badR (i k : Nat) (a b : Nogood) : Bool := decide (b.2 < a.2) || decide (b.1.length < a.1.length) || decide (k < i)
def keepR (i : Nat) (a : Nogood) : Nat → List Nogood → Bool → Bool
  | _, [], q => q
  | k, b :: r, q => if skipN i k a b then keepR i a (k + 1) r q else keepR i a (k + 1) r (if badR i k a b then false else q)
def redR (l : List Nogood) : Nat → List Nogood → List Nogood
  | _, [] => []
  | i, a :: r => if keepR i a 0 l true then a :: redR l (i + 1) r else redR l (i + 1) r
theorem redR_len (l r : List Nogood) : ∀ i, (redR l i r).length ≤ r.length := by
  induction r with
  | nil => intro i; simp [redR]
  | cons a r ih =>
    intro i
    have := ih (i + 1)
    rw [redR]
    split <;> simp <;> omega
def rreduceC (bd : Int) (l : List Nogood) : List Nogood := if checkF bd l = 0 then redR l 0 l else l

set_option maxHeartbeats 8000000 in
set_option maxRecDepth 100000 in
theorem rreduce_calls (bd : Int) (v : Value) (l : List Nogood) (w : World) (hv : NogoodsAt w v l) :
    Calls Tryd.prog 26 #[.agg #[.int .i64 bd, v]] w fun e w' => ∃ v', e = .returned (.agg #[.int .i64 bd, v']) ∧ NogoodsAt w' v' (rreduceC bd l) ∧ Below w.heap.size w w' := by
  obtain ⟨A, n, c, rfl, hn, hm⟩ := hv.form
  have hroom : n * 32 ≤ 140737488355328 := by obtain ⟨_, _, hv', hl, _⟩ := id hv; injection hv' with _ h2 _; omega
  obtain ⟨W0, hW0⟩ : ∃ W0, W0 = (w.alloc (.cells #[.int .i64 bd, .slice A n c] 25)).alloc (.cells #[.int .i64 0, .slice none 0 0] 25) := ⟨_, rfl⟩
  have hBW : Below w.heap.size w W0 := by rw [hW0]; exact belowA (belowA (Below.refl _ _) _) _
  have p0 : W0.cell? ⟨w.heap.size, 0, none⟩ = some (.int .i64 bd) := by rw [hW0]; simp
  have p1 : W0.cell? ⟨w.heap.size, 1, none⟩ = some (.slice A n c) := by rw [hW0]; simp
  have hrb : W0.heap[w.heap.size + 1]? = some (.cells #[.int .i64 0, .slice none 0 0] 25 (0, 0)) := by
    rw [hW0]
    have := heap_alloc_new (w.alloc (.cells #[.int .i64 bd, .slice A n c] 25)) (.cells #[.int .i64 0, .slice none 0 0] 25)
    simpa using this
  have hsz : w.heap.size + 2 = W0.heap.size := by rw [hW0]; simp
  have hv0 := hv.keep hBW
  have hck := rcheck_calls bd _ l _ hv0
  by_cases hz : checkF bd l = 0
  · have hso : rreduceC bd l = redR l 0 l := if_pos hz
    obtain ⟨D, hD⟩ : ∃ D, D = redR l 0 l := ⟨_, rfl⟩
    have hDl : D.length ≤ n := by rw [hD, hn]; exact redR_len _ _ _
    rw [hz] at hck
    rw [hso, ← hD]
    have HV := Lib.hid hv
    have HN := Lib.hid hn
    have HW0 := Lib.hid hW0
    have HBW := Lib.hid hBW
    have HRB := Lib.hid hrb
    have HV0 := Lib.hid hv0
    have HSZ := Lib.hid hsz
    have HCK := Lib.hid hck
    have HSO := Lib.hid hso
    have HD := Lib.hid hD
    have HDL := Lib.hid hDl
    have HZ := Lib.hid hz
    clear hv hn hW0 hBW hrb hv0 hsz hck hso hD hDl hz
    go_enter Tryd.func26, Tryd.ntmps26
    go_upto_region 1 with fail
    rw [← HW0.out]
    go_upto_region 4 with (go_at_call 14; refine HCK.out.mono ?_; rintro e w1 ⟨rfl, hb1⟩; have q0 := kept hb1 p0; have q1 := kept hb1 p1; have HB1 := Lib.hid hb1; clear hb1)
    have hW3b : Below w1.heap.size w1 (w1.alloc (.cells #[.int .i64 bd, .slice none 0 0] 25)) := belowA (Below.refl _ _) _
    have hW3h : (w1.alloc (.cells #[.int .i64 bd, .slice none 0 0] 25)).heap[w1.heap.size]? = some (.cells #[.int .i64 bd, .slice none 0 0] 25 (0, 0)) := heap_alloc_new _ _
    have hW3s : w1.heap.size + 1 ≤ (w1.alloc (.cells #[.int .i64 bd, .slice none 0 0] 25)).heap.size := by simp
    generalize w1.alloc (.cells #[.int .i64 bd, .slice none 0 0] 25) = W3 at hW3b hW3h hW3s ⊢
    have q0' := kept hW3b q0
    have q1' := kept hW3b q1
    have HW3B := Lib.hid hW3b
    have HW3H := Lib.hid hW3h
    clear hW3b hW3h
    go_wp2_with fail
    go_loopg [19] n (fun gh i wr => ∃ (k : Nat) (ov : Value) (acc : List Nogood), k ≤ n ∧ gh = n - k ∧ i = .int .i64 k ∧ Below w1.heap.size w1 wr ∧ w1.heap.size + 1 ≤ wr.heap.size ∧ wr.heap[w1.heap.size]? = some (.cells #[.int .i64 bd, ov] 25 (0, 0)) ∧ OwnR w wr (w1.heap.size + 1) ov acc ∧ acc.length ≤ k ∧ D = acc ++ redR l k (l.drop k))
    case atStart => exact ⟨0, _, [], Nat.zero_le _, by omega, rfl, HW3B.out, hW3s, HW3H.out, OwnR.nil_ _ _ _, Nat.zero_le _, HD.out⟩
    case round =>
      obtain ⟨k, ov, acc, hk, hg, rfl, hB, hsw, hb3, hown, hal, hF⟩ := hrel
      obtain ⟨wo, rfl⟩ : ∃ wo : World, wo = wr := ⟨_, rfl⟩
      obtain ⟨oA, oc, rfl⟩ := hown.form
      obtain ⟨al, hal2⟩ : ∃ al, al = acc.length := ⟨_, rfl⟩
      rw [← hal2] at hb3 hown hal
      have hBw : Below w.heap.size w wo := belowT HBW.out (belowT HB1.out hB)
      have u1 := kept hB q1
      have b30 : wo.cell? ⟨w1.heap.size, 0, none⟩ = some (.int .i64 bd) := by simp [World.cell?, hb3]
      have b31 : wo.cell? ⟨w1.heap.size, 1, none⟩ = some (.slice oA al oc) := by simp [World.cell?, hb3]
      by_cases hlt : k < n
      · obtain ⟨bb, off, xA, xn, xc, x, xd, rfl, c0, hxn, hxm, hxv, c1, hx, hd⟩ := HV.out.at hlt
        have d0 := kept hBw c0
        have d1 := kept hBw c1
        have hbr : bb < wo.heap.size := lt_of_cell d0
        obtain ⟨KD, hKD⟩ : ∃ KD, KD = keepR k (x, xd) 0 l true := ⟨_, rfl⟩
        have hst : D = acc ++ (if KD then (x, xd) :: redR l (k + 1) (l.drop (k + 1)) else redR l (k + 1) (l.drop (k + 1))) := by rw [hF, hd, redR, ← hKD]
        have hW5b : Below wo.heap.size wo (wo.alloc (.cells #[.slice xA xn xc, .int .i64 xd] 45)) := belowA (Below.refl _ _) _
        have r0 : (wo.alloc (.cells #[.slice xA xn xc, .int .i64 xd] 45)).cell? ⟨wo.heap.size, 0, none⟩ = some (.slice xA xn xc) := by simp
        have r1 : (wo.alloc (.cells #[.slice xA xn xc, .int .i64 xd] 45)).cell? ⟨wo.heap.size, 1, none⟩ = some (.int .i64 xd) := by simp
        have HG := Lib.hid hg
        have HB := Lib.hid hB
        have HB3 := Lib.hid hb3
        have HOWN := Lib.hid hown
        have HF := Lib.hid hF
        have HAL2 := Lib.hid hal2
        have HBw := Lib.hid hBw
        have C0 := Lib.hid c0
        have C1 := Lib.hid c1
        have HXN := Lib.hid hxn
        have HXV := Lib.hid hxv
        have HX := Lib.hid hx
        have HDD := Lib.hid hd
        have HKD := Lib.hid hKD
        have HST := Lib.hid hst
        clear hg hB hb3 hown hF hal2 hBw c0 c1 hxn hxv hx hd hKD hst
        go_upto_region 8 with fail
        generalize hW5 : wo.alloc (.cells #[.slice xA xn xc, .int .i64 xd] 45) = W5 at hW5b r0 r1 ⊢
        have v1 := kept hW5b u1
        have hB5 := belowT HBw.out hW5b
        have HW5B := Lib.hid hW5b
        have HB5 := Lib.hid hB5
        have HW5 := Lib.hid hW5
        clear hW5b hB5 hW5
        go_wp2_with fail
        go_loopg [6, 7, 8, 27] n (fun g2 kp s7 s8 iv w2 => ∃ (j : Nat) (q : Bool), j ≤ n ∧ g2 = n - j ∧ iv = .int .i64 j ∧ kp = .bool q ∧ Below W5.heap.size W5 w2 ∧ KD = keepR k (x, xd) j (l.drop j) q)
        case atStart => exact ⟨0, true, Nat.zero_le _, by omega, rfl, rfl, Below.refl _ _, HKD.out⟩
        case round =>
          obtain ⟨j, q, hj, hg2, rfl, rfl, hB2, hF2⟩ := hrel
          have t0 := kept hB2 r0
          have t1 := kept hB2 r1
          have hsw5 := HW5B.out.size
          have hw5 := lt_of_cell r0
          have hs2 := hB2.size
          by_cases hlt2 : j < n
          · obtain ⟨_, _, yA, yn, yc, y, yd, hAe, e0, hyn, hym, hyv, e1, hy, hdy⟩ := (HV.out.keep (belowT HB5.out hB2)).at hlt2
            injection hAe with hAe
            injection hAe with hb_ ho_
            subst hb_ ho_
            have hbr2 : bb < wr.heap.size := lt_of_cell e0
            have hst2 : KD = if skipN k j (x, xd) (y, yd) then keepR k (x, xd) (j + 1) (l.drop (j + 1)) q else keepR k (x, xd) (j + 1) (l.drop (j + 1)) (if badR k j (x, xd) (y, yd) then false else q) := by rw [hF2, hdy, keepR]
            have hW6b : Below wr.heap.size wr (wr.alloc (.cells #[.slice yA yn yc, .int .i64 yd] 45)) := belowA (Below.refl _ _) _
            have s0 : (wr.alloc (.cells #[.slice yA yn yc, .int .i64 yd] 45)).cell? ⟨wr.heap.size, 0, none⟩ = some (.slice yA yn yc) := by simp
            have s1 : (wr.alloc (.cells #[.slice yA yn yc, .int .i64 yd] 45)).cell? ⟨wr.heap.size, 1, none⟩ = some (.int .i64 yd) := by simp
            have HG2 := Lib.hid hg2
            have HB2 := Lib.hid hB2
            have HF2 := Lib.hid hF2
            have HYN := Lib.hid hyn
            have HYV := Lib.hid hyv
            have HY := Lib.hid hy
            have HDY := Lib.hid hdy
            have HST2 := Lib.hid hst2
            clear hg2 hB2 hF2 hyn hyv hy hdy hst2
            go_upto_region 11 with fail
            generalize hW6 : wr.alloc (.cells #[.slice yA yn yc, .int .i64 yd] 45) = W6 at hW6b s0 s1 ⊢
            have t0' := kept hW6b t0
            have t1' := kept hW6b t1
            have hB6 := belowT HB2.out hW6b
            have hco := rContains_calls _ _ x y W6 ((HXV.out.keep HB5.out).keep hB6) (HYV.out.keep hW6b)
            have HW6B := Lib.hid hW6b
            have HB6 := Lib.hid hB6
            have HW6 := Lib.hid hW6
            clear hW6b hB6 hW6
            go_cut [49] (fun z wx => z = .bool (skipN k j (x, xd) (y, yd)) ∧ Below W6.heap.size W6 wx)
            case first =>
              by_cases h1 : j = k
              · have hfin : skipN k j (x, xd) (y, yd) = true := by simp [skipN, h1]
                subst h1
                have HCO := Lib.hid hco
                have HFIN := Lib.hid hfin
                clear hco hfin
                go_wp2_with fail
                go_meet
                exact ⟨by rw [HFIN.out], Below.refl _ _⟩
              · have hjk' : ((j : Int) == (k : Int)) = false := by simp; omega
                by_cases h2 : xd < yd
                · have hfin : skipN k j (x, xd) (y, yd) = true := by simp [skipN, h2]
                  have HCO := Lib.hid hco
                  have HFIN := Lib.hid hfin
                  have H1 := Lib.hid h1
                  clear hco hfin h1
                  go_wp2_with fail
                  go_meet
                  exact ⟨by rw [HFIN.out], Below.refl _ _⟩
                · have h2' : decide (yd > xd) = false := by simpa using h2
                  have hfin : skipN k j (x, xd) (y, yd) = !ContainsF x y := by simp [skipN, h1, h2]
                  generalize ContainsF x y = cc at hco hfin
                  have HCO := Lib.hid hco
                  have HFIN := Lib.hid hfin
                  have H1 := Lib.hid h1
                  clear hco hfin h1
                  go_wp2_with (go_at_call 50; refine HCO.out.mono ?_; rintro e w7 ⟨rfl, hb7⟩)
                  go_meet
                  exact ⟨by rw [HFIN.out], hb7⟩
            case rest =>
              obtain ⟨rfl, hB7⟩ := hcut
              clear hco
              cases hsk : skipN k j (x, xd) (y, yd)
              · have hst3 : KD = keepR k (x, xd) (j + 1) (l.drop (j + 1)) (if badR k j (x, xd) (y, yd) then false else q) := by rw [HST2.out, hsk]; rfl
                have z0 := kept hB7 s0
                have z1 := kept hB7 s1
                have y0 := kept hB7 t0'
                have y1 := kept hB7 t1'
                have hB27 := belowT HB6.out hB7
                have HST3 := Lib.hid hst3
                have HSK := Lib.hid hsk
                have HB7 := Lib.hid hB7
                have HB27 := Lib.hid hB27
                clear hst3 hsk hB7 hB27
                go_upto_region 12 with fail
                go_cut [68] (fun z w8 => z = .bool (badR k j (x, xd) (y, yd)) ∧ w8 = wc)
                case first =>
                  by_cases h3 : yd < xd
                  · have hfin : badR k j (x, xd) (y, yd) = true := by simp [badR, h3]
                    have HFIN := Lib.hid hfin
                    clear hfin
                    go_wp2_with fail
                    go_meet
                    exact ⟨by rw [HFIN.out], rfl⟩
                  · have h3' : decide (yd < xd) = false := by simpa using h3
                    by_cases h4 : yn < xn
                    · have hfin : badR k j (x, xd) (y, yd) = true := by have e1 := HXN.out; have e2 := HYN.out; have : y.length < x.length := by omega
                                                                        simp [badR, this]
                      have HFIN := Lib.hid hfin
                      clear hfin
                      go_wp2_with fail
                      go_meet
                      exact ⟨by rw [HFIN.out], rfl⟩
                    · have h4' : decide ((yn : Int) < (xn : Int)) = false := by simp; omega
                      have hfin : badR k j (x, xd) (y, yd) = decide (j < k) := by
                        have e1 := HXN.out
                        have e2 := HYN.out
                        have e3 : ¬ y.length < x.length := by omega
                        have e4 : ¬ yd < xd := by simpa using h3'
                        simp [badR, e3, e4]
                      have HFIN := Lib.hid hfin
                      clear hfin
                      go_wp2_with fail
                      go_meet
                      exact ⟨by rw [HFIN.out], rfl⟩
                case rest =>
                  obtain ⟨rfl, rfl⟩ := hcut
                  cases hbad : badR k j (x, xd) (y, yd)
                  · have hst4 : KD = keepR k (x, xd) (j + 1) (l.drop (j + 1)) q := by rw [HST3.out, hbad]; rfl
                    have HST4 := Lib.hid hst4
                    clear hst4
                    go_wp2_with fail
                    go_roundg (n - (j + 1))
                    case measure => have := HG2.out; omega
                    case rel => exact ⟨j + 1, q, by omega, rfl, by go_num, rfl, HB27.out, HST4.out⟩
                  · have hst4 : KD = keepR k (x, xd) (j + 1) (l.drop (j + 1)) false := by rw [HST3.out, hbad]; rfl
                    have HST4 := Lib.hid hst4
                    clear hst4
                    go_wp2_with fail
                    go_roundg (n - (j + 1))
                    case measure => have := HG2.out; omega
                    case rel => exact ⟨j + 1, false, by omega, rfl, by go_num, rfl, HB27.out, HST4.out⟩
              · have hst3 : KD = keepR k (x, xd) (j + 1) (l.drop (j + 1)) q := by rw [HST2.out, hsk]; rfl
                have hB27 := belowT HB6.out hB7
                have HST3 := Lib.hid hst3
                have HSK := Lib.hid hsk
                have HB7 := Lib.hid hB7
                have HB27 := Lib.hid hB27
                clear hst3 hsk hB7 hB27
                go_wp2_with fail
                go_roundg (n - (j + 1))
                case measure => have := HG2.out; omega
                case rel => exact ⟨j + 1, q, by omega, rfl, by go_num, rfl, HB27.out, HST3.out⟩
          · have hfin : KD = q := by rw [hF2, List.drop_eq_nil_of_le (by have := HN.out; omega), keepR]
            have hBo : Below wo.heap.size wo wr := belowT HW5B.out hB2
            have hb3' := hBo.block w1.heap.size (by omega)
            rw [HB3.out] at hb3'
            have g31 : wr.cell? ⟨w1.heap.size, 1, none⟩ = some (.slice oA al oc) := by simp [World.cell?, hb3']
            have hownr := HOWN.out.keep hBo
            have hlen1 : (acc.length + 1) * 32 ≤ 140737488355328 := by have := HAL2.out; omega
            have hbas1 : w1.heap.size + 1 ≤ wr.heap.size := by omega
            have hb1w : Below w1.heap.size w1 wr := belowT HB.out hBo
            have hst1 := HST.out
            rw [hfin] at hst1
            cases q
            · have HFIN := Lib.hid hfin
              have HBO := Lib.hid hBo
              have HB3' := Lib.hid hb3'
              have HOWNR := Lib.hid hownr
              have HLEN1 := Lib.hid hlen1
              have HB1W := Lib.hid hb1w
              have HST1 := Lib.hid hst1
              have HG2 := Lib.hid hg2
              have HB2 := Lib.hid hB2
              have HF2 := Lib.hid hF2
              clear hfin hBo hb3' hownr hlen1 hb1w hst1 hg2 hB2 hF2
              go_wp2_with fail
              go_roundg (n - (k + 1))
              case measure => have := HG.out; omega
              case rel => exact ⟨k + 1, _, acc, by omega, rfl, by go_num, HB1W.out, by omega, HB3'.out, HOWNR.out, by have := HAL2.out; omega, by simpa using HST1.out⟩
            · have HFIN := Lib.hid hfin
              have HBO := Lib.hid hBo
              have HB3' := Lib.hid hb3'
              have HOWNR := Lib.hid hownr
              have HLEN1 := Lib.hid hlen1
              have HB1W := Lib.hid hb1w
              have HST1 := Lib.hid hst1
              have HG2 := Lib.hid hg2
              have HB2 := Lib.hid hB2
              have HF2 := Lib.hid hF2
              clear hfin hBo hb3' hownr hlen1 hb1w hst1 hg2 hB2 hF2
              go_wp2_with (at_builtin; refine wpList_append_nogood rfl (.tmp 72) (.tmp 74) rfl w wr (w1.heap.size + 1) (.slice oA al oc) acc xA xn xc (x, xd) rfl HOWNR.out rfl HLEN1.out hbas1 HXV.out ?_; intro v5 w5 hown5 hg5; have HB5W := Lib.hid (below_of_grown (base := w1.heap.size + 1) hg5 (by simp; omega) (fun r e => (HOWNR.out.lt r e).1)); have s5 := HB5W.out.block w1.heap.size (by omega); rw [(belowA (Below.refl _ _) _).block _ (by omega), HB3'.out] at s5; have k5 : ∀ j, w5.frozen? ⟨w1.heap.size, j, none⟩ = false := (fun j => (by simp [World.frozen?, s5])); have m5 : w5.cell? ⟨w1.heap.size, 1, none⟩ = some (.slice oA al oc) := (by simp [World.cell?, s5]); obtain ⟨A5, c5, rfl⟩ := hown5.form; obtain ⟨n5, hn5⟩ : ∃ n5, n5 = (acc ++ [(x, xd)]).length := ⟨_, rfl⟩; rw [← hn5] at hown5 ⊢; have HO5 := Lib.hid hown5; have HN5 := Lib.hid hn5; have HS5 := Lib.hid s5; clear hown5 hn5 s5 hg5)
              have hset := set_grown (i := 1) HS5.out (.slice A5 n5 c5)
              have hblk := set_block (i := 1) HS5.out (.slice A5 n5 c5) #[.int .i64 bd, .slice A5 n5 c5] rfl
              go_roundg (n - (k + 1))
              case measure => have := HG.out; omega
              case rel =>
                have b5 : Below w1.heap.size w1 w5 := (belowA HB1W.out _).trans (HB5W.out.mono (by omega))
                refine ⟨k + 1, _, acc ++ [(x, xd)], by omega, rfl, by go_num, b5.trans (below_of_grown hset b5.size (fun g e => by injection e with e; omega)), ?_, hblk, HO5.out.kept hset (fun r e => by injection e with e; omega), by have := HAL2.out; simp; omega, by simpa using HST1.out⟩
                have h1 := HB5W.out.size
                have h2 := hset.size
                simp at h1
                omega
      · have hfin : D = acc := by rw [hF, List.drop_eq_nil_of_le (by have := HN.out; omega), redR]; simp
        have b4 : Below W0.heap.size W0 wo := belowT HB1.out hB
        have t4 := b4.block (w.heap.size + 1) (by have := HSZ.out; omega)
        rw [HRB.out] at t4
        have m0 : wo.cell? ⟨w.heap.size + 1, 0, none⟩ = some (.int .i64 0) := by simp [World.cell?, t4]
        have m1 : wo.cell? ⟨w.heap.size + 1, 1, none⟩ = some (.slice none 0 0) := by simp [World.cell?, t4]
        have kf : ∀ j, wo.frozen? ⟨w.heap.size + 1, j, none⟩ = false := fun j => by simp [World.frozen?, t4]
        have hwn : ¬ w1.heap.size = w.heap.size + 1 := by have := HSZ.out; have := HB1.out.size; omega
        have HFIN := Lib.hid hfin
        have HB := Lib.hid hB
        have HB3 := Lib.hid hb3
        have HOWN := Lib.hid hown
        have HF := Lib.hid hF
        have HBw := Lib.hid hBw
        have T4 := Lib.hid t4
        have HAL2 := Lib.hid hal2
        have HG := Lib.hid hg
        have B4 := Lib.hid b4
        clear hfin hB hb3 hown hF hBw t4 hal2 hg b4
        go_wp2_with fail
        have t1 := set_block (i := 0) T4.out (.int .i64 bd) #[.int .i64 bd, .slice none 0 0] rfl
        have t2 := set_block (i := 1) t1 (.slice oA al oc) #[.int .i64 bd, .slice oA al oc] rfl
        have gg := World.grownBy.trans (set_grown (i := 0) T4.out (.int .i64 bd)) (set_grown (i := 1) t1 (.slice oA al oc))
        generalize (wo.setCell ⟨w.heap.size + 1, 0, none⟩ (.int .i64 bd)).setCell ⟨w.heap.size + 1, 1, none⟩ (.slice oA al oc) = wf at t2 gg ⊢
        have e0 : wf.cell? ⟨w.heap.size + 1, 0, none⟩ = some (.int .i64 bd) := by simp [World.cell?, t2]
        have e1 : wf.cell? ⟨w.heap.size + 1, 1, none⟩ = some (.slice oA al oc) := by simp [World.cell?, t2]
        have hbf : Below w.heap.size w wf := HBw.out.trans (below_of_grown gg HBw.out.size (fun g hg => by injection hg with hg; omega))
        refine bodyPost_ret (v := .agg #[.int .i64 bd, .slice oA al oc]) (by simp [results, Tryd.results26, go_sem, e0, e1]) rfl ⟨_, rfl, ?_, hbf⟩
        rw [HFIN.out]
        exact (HOWN.out.kept gg (fun r e => by injection e with e; have := HSZ.out; have := HB1.out.size; omega)).nogoods hbf (by have := HAL2.out; omega)
  · have hso : rreduceC bd l = l := if_neg hz
    rw [hso]
    obtain ⟨z, hzz⟩ : ∃ z, z = checkF bd l := ⟨_, rfl⟩
    rw [← hzz] at hck hz
    have hzb : (z != 0) = true := by simpa using hz
    have HV := Lib.hid hv
    have HN := Lib.hid hn
    have HW0 := Lib.hid hW0
    have HBW := Lib.hid hBW
    have HRB := Lib.hid hrb
    have HV0 := Lib.hid hv0
    have HSZ := Lib.hid hsz
    have HCK := Lib.hid hck
    have HSO := Lib.hid hso
    have HZ := Lib.hid hz
    have HZZ := Lib.hid hzz
    clear hv hn hW0 hBW hrb hv0 hsz hck hso hz hzz
    go_enter Tryd.func26, Tryd.ntmps26
    go_upto_region 1 with fail
    rw [← HW0.out]
    go_upto_region 2 with (go_at_call 14; refine HCK.out.mono ?_; rintro e w1 ⟨rfl, hb1⟩; have q0 := kept hb1 p0; have q1 := kept hb1 p1; have HB1 := Lib.hid hb1; clear hb1)
    have t4 := HB1.out.block (w.heap.size + 1) (by have := HSZ.out; omega)
    rw [HRB.out] at t4
    have m0 : w1.cell? ⟨w.heap.size + 1, 0, none⟩ = some (.int .i64 0) := by simp [World.cell?, t4]
    have m1 : w1.cell? ⟨w.heap.size + 1, 1, none⟩ = some (.slice none 0 0) := by simp [World.cell?, t4]
    have kf : ∀ j, w1.frozen? ⟨w.heap.size + 1, j, none⟩ = false := fun j => by simp [World.frozen?, t4]
    have T4 := Lib.hid t4
    clear t4
    go_wp2_with fail
    have t1 := set_block (i := 0) T4.out (.int .i64 bd) #[.int .i64 bd, .slice none 0 0] rfl
    have t2 := set_block (i := 1) t1 (.slice A n c) #[.int .i64 bd, .slice A n c] rfl
    have gg := World.grownBy.trans (set_grown (i := 0) T4.out (.int .i64 bd)) (set_grown (i := 1) t1 (.slice A n c))
    generalize (w1.setCell ⟨w.heap.size + 1, 0, none⟩ (.int .i64 bd)).setCell ⟨w.heap.size + 1, 1, none⟩ (.slice A n c) = wf at t2 gg ⊢
    have e0 : wf.cell? ⟨w.heap.size + 1, 0, none⟩ = some (.int .i64 bd) := by simp [World.cell?, t2]
    have e1 : wf.cell? ⟨w.heap.size + 1, 1, none⟩ = some (.slice A n c) := by simp [World.cell?, t2]
    have hbw1 := belowT HBW.out HB1.out
    have hbf : Below w.heap.size w wf := hbw1.trans (below_of_grown gg hbw1.size (fun g hg => by injection hg with hg; omega))
    exact bodyPost_ret (v := .agg #[.int .i64 bd, .slice A n c]) (by simp [results, Tryd.results26, go_sem, e0, e1]) rfl ⟨_, rfl, HV.out.keep hbf, hbf⟩
end Go.Proofs.YticdfbhbbapbdaaDoor
/- '==' and '!=' between two facts. -/
namespace Go.Proofs.YticdfbhbbapbdaaDoor
/-- are two facts equal? -/
def eqB (a b c d : Int) : Bool := decide (a = c ∧ b = d)
end Go.Proofs.YticdfbhbbapbdaaDoor
/- stratagembase.Facts: are two lists of facts equal? -/
namespace Go.Proofs.YticdfbhbbapbdaaDoor
open Go.RowKit

def eqL : List Fact → List Fact → Bool
  | [], _ => true
  | _ :: _, [] => true
  | x :: r, y :: s => if x.1 = y.1 ∧ x.2 = y.2 then eqL r s else false
theorem eqL_eq (a : List Fact) : ∀ b : List Fact, a.length = b.length → eqL a b = decide (a = b) := by
  induction a with
  | nil => intro b h; cases b with
    | nil => rfl
    | cons y s => simp at h
  | cons x r ih =>
    intro b h
    cases b with
    | nil => simp at h
    | cons y s =>
      simp only [List.length_cons, Nat.add_right_cancel_iff] at h
      rw [eqL, ih s h]
      by_cases hx : x.1 = y.1 ∧ x.2 = y.2
      · rw [if_pos hx]
        have : x = y := Prod.ext hx.1 hx.2
        subst this
        simp
      · rw [if_neg hx]
        have : ¬ x = y := fun e => hx ⟨by rw [e], by rw [e]⟩
        simp [this]
def sameF (a b : List Fact) : Bool := decide (a = b)

set_option maxHeartbeats 1000000 in
theorem bfacts_calls (u v : Value) (a b : List Fact) (w : World) (hu : FactsAt w u a) (hv : FactsAt w v b) :
    Calls Tryd.prog 42 #[u, v] w fun e w' => e = .returned (.bool (sameF a b)) ∧ Below w.heap.size w w' := by
  obtain ⟨A, n, c, rfl, hn, hm⟩ := hu.form
  obtain ⟨B, m, d, rfl, hmb, hmm⟩ := hv.form
  by_cases hnm : n = m
  · subst hnm
    have hfin : sameF a b = eqL a b := (eqL_eq a b (by omega)).symm
    have HU := Lib.hid hu
    have HV := Lib.hid hv
    have HN := Lib.hid hn
    have HMB := Lib.hid hmb
    have HFIN := Lib.hid hfin
    clear hu hv hn hmb hfin
    go_enter Tryd.func42, Tryd.ntmps42
    go_wp2
    go_loopg [13] n (fun g i wr => ∃ k : Nat, k ≤ n ∧ g = n - k ∧ i = .int .i64 k ∧ Below w.heap.size w wr ∧ eqL a b = eqL (a.drop k) (b.drop k))
    case atStart => exact ⟨0, Nat.zero_le _, by omega, rfl, Below.refl _ _, rfl⟩
    case round =>
      obtain ⟨k, hk, hg, rfl, hB, hF⟩ := hrel
      have HG := Lib.hid hg
      have HF := Lib.hid hF
      clear hg hF
      by_cases hlt : k < n
      · obtain ⟨b1, o1, x1, y1, rfl, c0, c1, hx1, hd1⟩ := (HU.out.keep hB).at hlt
        obtain ⟨b2, o2, x2, y2, rfl, e0, e1, hx2, hd2⟩ := (HV.out.keep hB).at hlt
        have HX1 := Lib.hid hx1
        have HD1 := Lib.hid hd1
        have HX2 := Lib.hid hx2
        have HD2 := Lib.hid hd2
        clear hx1 hd1 hx2 hd2
        go_upto_region 6 with fail
        go_cut [24] (fun t wx => t = .bool !(eqB x1 y1 x2 y2) ∧ Below w.heap.size w wx)
        case first =>
          by_cases h1 : x1 = x2
          · subst h1
            by_cases h2 : y1 = y2
            · subst h2
              refine wp_region_quiet_lit (by kernel_rfl) (by kernel_rfl) ?_
              repeat (any_goals (first | go_big_quiet_step (fail) | quiet_step (fail) | (refine wpQuiet_step (fun K hK => ?_); go_simp; split <;> (refine hK _ ?_; clear hK K))))
              all_goals (refine wpQuiet_nil ?_; intro _ hw'; obtain ⟨nq, hw''⟩ := hw'; subst hw'')
              all_goals (go_wp2_with fail; go_meet; exact ⟨by simp [eqB], below_drewN hB _⟩)
            · refine wp_region_quiet_lit (by kernel_rfl) (by kernel_rfl) ?_
              repeat (any_goals (first | go_big_quiet_step (fail) | quiet_step (fail) | (refine wpQuiet_step (fun K hK => ?_); go_simp; split <;> (refine hK _ ?_; clear hK K))))
              all_goals (refine wpQuiet_nil ?_; intro _ hw'; obtain ⟨nq, hw''⟩ := hw'; subst hw'')
              all_goals (go_wp2_with fail; go_meet; exact ⟨by simp [eqB, h2], below_drewN hB _⟩)
          · refine wp_region_quiet_lit (by kernel_rfl) (by kernel_rfl) ?_
            repeat (any_goals (first | go_big_quiet_step (fail) | quiet_step (fail) | (refine wpQuiet_step (fun K hK => ?_); go_simp; split <;> (refine hK _ ?_; clear hK K))))
            all_goals (refine wpQuiet_nil ?_; intro _ hw'; obtain ⟨nq, hw''⟩ := hw'; subst hw'')
            all_goals (go_wp2_with fail; go_meet; exact ⟨by simp [eqB, h1], below_drewN hB _⟩)
        case rest =>
          obtain ⟨rfl, hB'⟩ := hcut
          cases hbad : eqB x1 y1 x2 y2
          · have heq : ¬ (x1 = x2 ∧ y1 = y2) := by simpa [eqB] using hbad
            have HEQ := Lib.hid heq
            clear heq
            go_wp2
            go_ret
            exact ⟨by rw [HFIN.out, HF.out, HD1.out, HD2.out, eqL, if_neg HEQ.out]; rfl, hB'⟩
          · have heq : x1 = x2 ∧ y1 = y2 := by simpa [eqB] using hbad
            have HEQ := Lib.hid heq
            clear heq
            go_wp2
            go_roundg (n - (k + 1))
            case measure => have := HG.out; omega
            case rel => exact ⟨k + 1, by omega, rfl, by go_num, hB', by rw [HF.out, HD1.out, HD2.out, eqL, if_pos HEQ.out]⟩
      · go_wp2
        go_ret
        exact ⟨by rw [HFIN.out, HF.out, List.drop_eq_nil_of_le (by have := HN.out; omega)]; rfl, hB⟩
  · have hne : ((n : Int) != (m : Int)) = true := by simp; omega
    have hfin : sameF a b = false := by
      simp only [sameF, decide_eq_false_iff_not]
      rintro rfl
      omega
    have HU := Lib.hid hu
    have HV := Lib.hid hv
    have HN := Lib.hid hn
    have HMB := Lib.hid hmb
    have HFIN := Lib.hid hfin
    clear hu hv hn hmb hfin
    go_enter Tryd.func42, Tryd.ntmps42
    go_wp2
    go_ret
    exact ⟨by rw [HFIN.out]; rfl, Below.refl _ _⟩
end Go.Proofs.YticdfbhbbapbdaaDoor
/- stratagemref30.Less, stratagemlaw30.Same. -/
namespace Go.Proofs.YticdfbhbbapbdaaDoor
open Go.RowKit

def lessL : List Fact → List Fact → Bool
  | x :: r, y :: s => if x.1 ≠ y.1 then decide (x.1 < y.1) else if x.2 ≠ y.2 then decide (x.2 < y.2) else lessL r s
  | a, b => decide (a.length < b.length)
theorem lessL_iff : ∀ (a b : List Fact), lessL a b = true ↔ LtL a b
  | [], [] => by simp [lessL, LtL]
  | [], _ :: _ => by simp [lessL, LtL]
  | _ :: _, [] => by simp [lessL, LtL]
  | x :: r, y :: s => by
    rw [lessL, LtL]
    by_cases h1 : x.1 = y.1
    · rw [if_neg (by simpa using h1)]
      by_cases h2 : x.2 = y.2
      · rw [if_neg (by simpa using h2), lessL_iff r s]
        have : x = y := Prod.ext h1 h2
        subst this
        simp
      · rw [if_pos h2, decide_eq_true_eq]
        have : x ≠ y := fun e => h2 (by rw [e])
        simp [this, h1]
    · rw [if_pos h1, decide_eq_true_eq]
      have : x ≠ y := fun e => h1 (by rw [e])
      simp [this, h1]

set_option maxHeartbeats 2000000 in
theorem less_calls (u v : Value) (a b : List Fact) (w : World) (hu : FactsAt w u a) (hv : FactsAt w v b) :
    Calls Tryd.prog 49 #[u, v] w fun e w' => e = .returned (.bool (lessL a b)) ∧ Below w.heap.size w w' := by
  obtain ⟨A, n, c, rfl, hn, hm⟩ := hu.form
  obtain ⟨A', n', c', rfl, hn', hm'⟩ := hv.form
  obtain ⟨D, hD⟩ : ∃ D, lessL a b = D := ⟨_, rfl⟩
  rw [hD]
  have HU := Lib.hid hu
  have HV := Lib.hid hv
  have HN := Lib.hid hn
  have HN' := Lib.hid hn'
  have HD := Lib.hid hD
  clear hu hv hn hn' hD
  go_enter Tryd.func49, Tryd.ntmps49
  go_wp2
  go_loopg [5] n (fun g i wr => ∃ k : Nat, k ≤ n ∧ k ≤ n' ∧ g = n - k ∧ i = .int .i64 k ∧ Below w.heap.size w wr ∧ D = lessL (a.drop k) (b.drop k))
  case atStart => exact ⟨0, Nat.zero_le _, Nat.zero_le _, by omega, rfl, Below.refl _ _, HD.out.symm⟩
  case round =>
    obtain ⟨k, hk, hk', hg, rfl, hB, hF⟩ := hrel
    have HG := Lib.hid hg
    have HF := Lib.hid hF
    clear hg hF
    by_cases hlt : k < n
    · obtain ⟨bb, off, x1, x2, rfl, c0, c1, hx, hd⟩ := (HU.out.keep hB).at hlt
      by_cases hlt' : k < n'
      · obtain ⟨bb', off', y1, y2, rfl, d0, d1, hy, hd'⟩ := (HV.out.keep hB).at hlt'
        have hst : D = if x1 ≠ y1 then decide (x1 < y1) else if x2 ≠ y2 then decide (x2 < y2) else lessL (a.drop (k + 1)) (b.drop (k + 1)) := by rw [HF.out, hd, hd', lessL]
        have HX := Lib.hid hx
        have HD2 := Lib.hid hd
        have HY := Lib.hid hy
        have HD3 := Lib.hid hd'
        clear hx hd hy hd'
        by_cases h1 : x1 = y1
        · rw [if_neg (by simpa using h1)] at hst
          have hb1 : (x1 != y1) = false := by simp [h1]
          by_cases h2 : x2 = y2
          · rw [if_neg (by simpa using h2)] at hst
            have hb2 : (x2 != y2) = false := by simp [h2]
            have HST := Lib.hid hst
            have H1 := Lib.hid h1
            have H2 := Lib.hid h2
            clear hst h1 h2
            go_wp2_with fail
            refine wp_region_quiet_lit (by kernel_rfl) (by kernel_rfl) ?_
            repeat (any_goals (first | go_big_quiet_step (fail) | quiet_step (fail) | (refine wpQuiet_step (fun K hK => ?_); go_simp; split <;> (refine hK _ ?_; clear hK K))))
            all_goals (refine wpQuiet_nil ?_; intro _ hw'; obtain ⟨nq, hw''⟩ := hw'; subst hw'')
            go_wp2_with fail
            refine wp_region_quiet_lit (by kernel_rfl) (by kernel_rfl) ?_
            repeat (any_goals (first | go_big_quiet_step (fail) | quiet_step (fail) | (refine wpQuiet_step (fun K hK => ?_); go_simp; split <;> (refine hK _ ?_; clear hK K))))
            all_goals (refine wpQuiet_nil ?_; intro _ hw'; obtain ⟨nq, hw''⟩ := hw'; subst hw'')
            go_wp2_with fail
            go_roundg (n - (k + 1))
            case measure => have := HG.out; omega
            case rel => exact ⟨k + 1, by omega, by omega, rfl, by go_num, by first | exact below_drewN hB _ | exact below_drewN (below_drewN hB _) _, HST.out⟩
          · rw [if_pos h2] at hst
            have hb2 : (x2 != y2) = true := by simp [h2]
            have HST := Lib.hid hst
            have H1 := Lib.hid h1
            clear hst h1
            go_wp2_with fail
            refine wp_region_quiet_lit (by kernel_rfl) (by kernel_rfl) ?_
            repeat (any_goals (first | go_big_quiet_step (fail) | quiet_step (fail) | (refine wpQuiet_step (fun K hK => ?_); go_simp; split <;> (refine hK _ ?_; clear hK K))))
            all_goals (refine wpQuiet_nil ?_; intro _ hw'; obtain ⟨nq, hw''⟩ := hw'; subst hw'')
            go_wp2_with fail
            refine wp_region_quiet_lit (by kernel_rfl) (by kernel_rfl) ?_
            repeat (any_goals (first | go_big_quiet_step (fail) | quiet_step (fail) | (refine wpQuiet_step (fun K hK => ?_); go_simp; split <;> (refine hK _ ?_; clear hK K))))
            all_goals (refine wpQuiet_nil ?_; intro _ hw'; obtain ⟨nq, hw''⟩ := hw'; subst hw'')
            go_wp2_with fail
            refine wp_region_quiet_lit (by kernel_rfl) (by kernel_rfl) ?_
            repeat (any_goals (first | go_big_quiet_step (fail) | quiet_step (fail) | (refine wpQuiet_step (fun K hK => ?_); go_simp; split <;> (refine hK _ ?_; clear hK K))))
            all_goals (refine wpQuiet_nil ?_; intro _ hw'; obtain ⟨nq, hw''⟩ := hw'; subst hw'')
            go_wp2_with fail
            go_ret
            exact ⟨by rw [HST.out]; rfl, below_drewN (below_drewN (below_drewN hB _) _) _⟩
        · rw [if_pos h1] at hst
          have hb1 : (x1 != y1) = true := by simp [h1]
          have HST := Lib.hid hst
          clear hst
          go_wp2_with fail
          refine wp_region_quiet_lit (by kernel_rfl) (by kernel_rfl) ?_
          repeat (any_goals (first | go_big_quiet_step (fail) | quiet_step (fail) | (refine wpQuiet_step (fun K hK => ?_); go_simp; split <;> (refine hK _ ?_; clear hK K))))
          all_goals (refine wpQuiet_nil ?_; intro _ hw'; obtain ⟨nq, hw''⟩ := hw'; subst hw'')
          go_wp2_with fail
          refine wp_region_quiet_lit (by kernel_rfl) (by kernel_rfl) ?_
          repeat (any_goals (first | go_big_quiet_step (fail) | quiet_step (fail) | (refine wpQuiet_step (fun K hK => ?_); go_simp; split <;> (refine hK _ ?_; clear hK K))))
          all_goals (refine wpQuiet_nil ?_; intro _ hw'; obtain ⟨nq, hw''⟩ := hw'; subst hw'')
          go_wp2_with fail
          go_ret
          exact ⟨by rw [HST.out]; rfl, below_drewN (below_drewN hB _) _⟩
      · have hfin : D = decide ((n : Int) < (n' : Int)) := by
          have e : decide ((n : Int) < (n' : Int)) = false := by simp; omega
          rw [HF.out, hd, show b.drop k = [] from List.drop_eq_nil_of_le (by have := HN'.out; omega), e]
          simp [lessL]
        have HX := Lib.hid hx
        have HD2 := Lib.hid hd
        have HFIN := Lib.hid hfin
        clear hx hd hfin
        go_wp2_with fail
        go_ret
        exact ⟨by rw [HFIN.out]; first | rfl | simp, hB⟩
    · have hfin : D = decide ((n : Int) < (n' : Int)) := by
        have e1 : a.drop k = [] := List.drop_eq_nil_of_le (by have := HN.out; omega)
        rw [HF.out, e1]
        cases hb : b.drop k with
        | nil =>
          have : n' = k := by have := congrArg List.length hb; rw [List.length_drop] at this; have := HN'.out; simp at *; omega
          simp [lessL]; omega
        | cons y s =>
          have : k < n' := by have := congrArg List.length hb; rw [List.length_drop] at this; have := HN'.out; simp at *; omega
          simp [lessL]; omega
      have HFIN := Lib.hid hfin
      clear hfin
      go_wp2_with fail
      go_ret
      exact ⟨by rw [HFIN.out]; first | rfl | simp, hB⟩

def sameNL : List Nogood → List Nogood → Bool
  | x :: r, y :: s => decide (x.2 = y.2) && sameF x.1 y.1 && sameNL r s
  | _, _ => true
def sameC (b1 : Int) (l1 : List Nogood) (b2 : Int) (l2 : List Nogood) : Bool := decide (b1 = b2) && decide (l1.length = l2.length) && sameNL l1 l2
theorem sameNL_self (l : List Nogood) : sameNL l l = true := by
  induction l with
  | nil => rfl
  | cons x r ih => simp [sameNL, ih, sameF]
theorem sameC_self (b : Int) (l : List Nogood) : sameC b l b l = true := by simp [sameC, sameNL_self]
theorem sameNL_eq : ∀ (a b : List Nogood), a.length = b.length → sameNL a b = true → a = b
  | [], [], _, _ => rfl
  | [], _ :: _, h, _ => by simp at h
  | _ :: _, [], h, _ => by simp at h
  | x :: r, y :: s, h, hs => by
    rw [sameNL] at hs
    simp only [Bool.and_eq_true, decide_eq_true_eq, sameF] at hs
    rw [Prod.ext hs.1.2 hs.1.1, sameNL_eq r s (by simpa using h) hs.2]

set_option maxHeartbeats 4000000 in
set_option maxRecDepth 100000 in
theorem same_calls (b1 b2 : Int) (u v : Value) (a b : List Nogood) (w : World) (hu : NogoodsAt w u a) (hv : NogoodsAt w v b) :
    Calls Tryd.prog 22 #[.agg #[.int .i64 b1, u], .agg #[.int .i64 b2, v]] w fun e w' => e = .returned (.bool (sameC b1 a b2 b)) ∧ Below w.heap.size w w' := by
  obtain ⟨A, n, c, rfl, hn, hm⟩ := hu.form
  obtain ⟨A', n', c', rfl, hn', hm'⟩ := hv.form
  obtain ⟨W0, hW0⟩ : ∃ W0, W0 = (w.alloc (.cells #[.int .i64 b1, .slice A n c] 25)).alloc (.cells #[.int .i64 b2, .slice A' n' c'] 25) := ⟨_, rfl⟩
  have hBW : Below w.heap.size w W0 := by rw [hW0]; exact belowA (belowA (Below.refl _ _) _) _
  have p0 : W0.cell? ⟨w.heap.size, 0, none⟩ = some (.int .i64 b1) := by rw [hW0]; simp
  have p1 : W0.cell? ⟨w.heap.size, 1, none⟩ = some (.slice A n c) := by rw [hW0]; simp
  have p2 : W0.cell? ⟨w.heap.size + 1, 0, none⟩ = some (.int .i64 b2) := by rw [hW0]; simp
  have p3 : W0.cell? ⟨w.heap.size + 1, 1, none⟩ = some (.slice A' n' c') := by rw [hW0]; simp
  have hu0 := hu.keep hBW
  have hv0 := hv.keep hBW
  obtain ⟨D, hD⟩ : ∃ D, sameC b1 a b2 b = D := ⟨_, rfl⟩
  rw [hD]
  by_cases hbb : b1 = b2
  · by_cases hnn : n = n'
    · subst hbb hnn
      have hD0 : D = sameNL a b := by
        have : a.length = b.length := by omega
        rw [← hD]; simp [sameC, this]
      have HU := Lib.hid hu
      have HV := Lib.hid hv
      have HN := Lib.hid hn
      have HN' := Lib.hid hn'
      have HD := Lib.hid hD
      have HD0 := Lib.hid hD0
      have HW0 := Lib.hid hW0
      have HBW := Lib.hid hBW
      have HU0 := Lib.hid hu0
      have HV0 := Lib.hid hv0
      clear hu hv hn hn' hD hD0 hW0 hBW hu0 hv0
      go_enter Tryd.func22, Tryd.ntmps22
      go_upto_region 1 with fail
      rw [← HW0.out]
      go_wp2_with fail
      go_loopg [23] n (fun g i wr => ∃ k : Nat, k ≤ n ∧ g = n - k ∧ i = .int .i64 k ∧ Below W0.heap.size W0 wr ∧ D = sameNL (a.drop k) (b.drop k))
      case atStart => exact ⟨0, Nat.zero_le _, by omega, rfl, Below.refl _ _, HD0.out⟩
      case round =>
        obtain ⟨k, hk, hg, rfl, hB, hF⟩ := hrel
        have HG := Lib.hid hg
        have HF := Lib.hid hF
        clear hg hF
        have q1 := kept hB p1
        have q3 := kept hB p3
        by_cases hlt : k < n
        · obtain ⟨bb, off, xA, xn, xc, x, xd, rfl, c0, hxn, hxm, hxv, c1, hx, hd⟩ := (HU0.out.keep hB).at hlt
          obtain ⟨bb', off', yA, yn, yc, y, yd, rfl, d0, hyn, hym, hyv, d1, hy, hd'⟩ := (HV0.out.keep hB).at hlt
          have hb0 : Below wr.heap.size wr wr.drew := (Below.refl _ _).drew
          have hvc := bfacts_calls _ _ x y _ (hxv.keep hb0) (hyv.keep hb0)
          have hst : D = (decide (xd = yd) && sameF x y && sameNL (a.drop (k + 1)) (b.drop (k + 1))) := by rw [HF.out, hd, hd', sameNL]
          generalize sameF x y = t at hvc hst
          by_cases hdd : xd = yd
          · have hbe : (xd != yd) = false := by simp [hdd]
            have hst' : D = (t && sameNL (a.drop (k + 1)) (b.drop (k + 1))) := by rw [hst, decide_eq_true hdd, Bool.true_and]
            subst hdd
            have HX := Lib.hid hx
            have HD2 := Lib.hid hd
            have HXV := Lib.hid hxv
            have HY := Lib.hid hy
            have HD3 := Lib.hid hd'
            have HYV := Lib.hid hyv
            have HXN := Lib.hid hxn
            have HYN := Lib.hid hyn
            have HVC := Lib.hid hvc
            have HST := Lib.hid hst
            have HST' := Lib.hid hst'
            have HB0 := Lib.hid hb0
            clear hx hd hxv hy hd' hyv hxn hyn hvc hst hst' hb0
            go_upto_region 6 with fail
            go_cut [54] (fun z wx => z = .bool (!t) ∧ Below W0.heap.size W0 wx)
            case first =>
              go_region_held3 (fun w' => w'.cell? ⟨bb, off + k * 2, none⟩ = some (.slice xA xn xc) ∧ w'.cell? ⟨bb', off' + k * 2, none⟩ = some (.slice yA yn yc) ∧ w'.cell? ⟨bb, off + k * 2 + 1, none⟩ = some (.int .i64 xd) ∧ w'.cell? ⟨bb', off' + k * 2 + 1, none⟩ = some (.int .i64 xd) ∧ w'.cell? ⟨w.heap.size, 1, none⟩ = some (.slice (some ⟨bb, off, none⟩) n c) ∧ w'.cell? ⟨w.heap.size + 1, 1, none⟩ = some (.slice (some ⟨bb', off', none⟩) n c'))
                (first | exact ⟨r0, r1, r2, r3, r4, r5⟩ | exact ⟨c0, d0, c1, d1, q1, q3⟩)
                (first
                  | (go_at_call 42; refine HVC.out.mono ?_; rintro e w1 ⟨rfl, hb1⟩; have HB1 := Lib.hid (belowT hB (belowT HB0.out hb1)); have r0 := kept (belowT HB0.out hb1) c0; have r1 := kept (belowT HB0.out hb1) d0; have r2 := kept (belowT HB0.out hb1) c1; have r3 := kept (belowT HB0.out hb1) d1; have r4 := kept (belowT HB0.out hb1) q1; have r5 := kept (belowT HB0.out hb1) q3; clear hb1)
                  | fail)
              all_goals (go_wp2_with fail; go_meet; exact ⟨rfl, HB1.out⟩)
            case rest =>
              obtain ⟨rfl, hB'⟩ := hcut
              cases t
              · go_wp2
                go_ret
                exact ⟨by rw [HST'.out]; rfl, belowT HBW.out hB'⟩
              · go_wp2
                go_roundg (n - (k + 1))
                case measure => have := HG.out; omega
                case rel => exact ⟨k + 1, by omega, rfl, by go_num, hB', by rw [HST'.out]; rfl⟩
          · have hbe : (xd != yd) = true := by simp [hdd]
            have hst' : D = false := by rw [hst, decide_eq_false hdd]; rfl
            have HX := Lib.hid hx
            have HD2 := Lib.hid hd
            have HXV := Lib.hid hxv
            have HY := Lib.hid hy
            have HD3 := Lib.hid hd'
            have HYV := Lib.hid hyv
            have HXN := Lib.hid hxn
            have HYN := Lib.hid hyn
            have HVC := Lib.hid hvc
            have HST := Lib.hid hst
            have HST' := Lib.hid hst'
            have HB0 := Lib.hid hb0
            clear hx hd hxv hy hd' hyv hxn hyn hvc hst hst' hb0
            go_upto_region 6 with fail
            go_cut [54] (fun z wx => z = .bool true ∧ Below W0.heap.size W0 wx)
            case first =>
              refine wp_region_quiet_lit (by kernel_rfl) (by kernel_rfl) ?_
              repeat (any_goals (first | go_big_quiet_step (fail) | quiet_step (fail) | (refine wpQuiet_step (fun K hK => ?_); go_simp; split <;> (refine hK _ ?_; clear hK K))))
              all_goals (refine wpQuiet_nil ?_; intro _ hw'; obtain ⟨nq, hw''⟩ := hw'; subst hw'')
              all_goals (go_wp2_with fail; go_meet; exact ⟨rfl, below_drewN hB _⟩)
            case rest =>
              obtain ⟨rfl, hB'⟩ := hcut
              go_wp2
              go_ret
              exact ⟨by rw [HST'.out]; rfl, belowT HBW.out hB'⟩
        · have hfin : D = true := by rw [HF.out, List.drop_eq_nil_of_le (by have := HN.out; omega)]; simp [sameNL]
          have HFIN := Lib.hid hfin
          clear hfin
          go_wp2
          go_ret
          exact ⟨by rw [HFIN.out]; rfl, belowT HBW.out hB⟩
    · have hfin : D = false := by
        have : ¬ a.length = b.length := by omega
        rw [← hD]; simp [sameC, this]
      have hne : ((n : Int) != (n' : Int)) = true := by simp; omega
      have hbe : (b1 != b2) = false := by simp [hbb]
      subst hbb
      have HU := Lib.hid hu
      have HV := Lib.hid hv
      have HN := Lib.hid hn
      have HN' := Lib.hid hn'
      have HD := Lib.hid hD
      have HW0 := Lib.hid hW0
      have HBW := Lib.hid hBW
      have HU0 := Lib.hid hu0
      have HV0 := Lib.hid hv0
      have HFIN := Lib.hid hfin
      clear hu hv hn hn' hD hW0 hBW hu0 hv0 hfin
      go_enter Tryd.func22, Tryd.ntmps22
      go_upto_region 1 with fail
      rw [← HW0.out]
      go_wp2_with fail
      go_ret
      exact ⟨by rw [HFIN.out]; rfl, HBW.out⟩
  · have hfin : D = false := by rw [← hD]; simp [sameC, hbb]
    have hbe : (b1 != b2) = true := by simp [hbb]
    have HU := Lib.hid hu
    have HV := Lib.hid hv
    have HN := Lib.hid hn
    have HN' := Lib.hid hn'
    have HD := Lib.hid hD
    have HW0 := Lib.hid hW0
    have HBW := Lib.hid hBW
    have HU0 := Lib.hid hu0
    have HV0 := Lib.hid hv0
    have HFIN := Lib.hid hfin
    clear hu hv hn hn' hD hW0 hBW hu0 hv0 hfin
    go_enter Tryd.func22, Tryd.ntmps22
    go_upto_region 1 with fail
    rw [← HW0.out]
    go_wp2_with fail
    go_ret
    exact ⟨by rw [HFIN.out]; rfl, HBW.out⟩
end Go.Proofs.YticdfbhbbapbdaaDoor
/- stratagemref30.Sort. -/
namespace Go.Proofs.YticdfbhbbapbdaaDoor
open Go.RowKit

def ltNB (x y : Nogood) : Bool := decide (x.2 < y.2) || (decide (x.2 = y.2) && lessL x.1 y.1)
theorem ltNB_iff (x y : Nogood) : ltNB x y = true ↔ LtN x y := by
  unfold ltNB LtN
  simp [lessL_iff]
def ltAt (x : Nogood) (acc : List Nogood) : Nat → Bool
  | 0 => false
  | p + 1 => match acc[p]? with
    | some y => ltNB x y
    | none => false
def placeN (x : Nogood) (acc : List Nogood) : Nat → Nat
  | 0 => 0
  | p + 1 => if ltAt x acc (p + 1) then placeN x acc p else p + 1
theorem placeN_step (x : Nogood) (acc : List Nogood) (p : Nat) : placeN x acc p = if ltAt x acc p then placeN x acc (p - 1) else p := by
  cases p with
  | zero => simp [placeN, ltAt]
  | succ p => rw [placeN]; simp
theorem ltAt_pos {x y : Nogood} {acc : List Nogood} {p : Nat} (hp : 0 < p) (h : acc[p - 1]? = some y) : ltAt x acc p = ltNB x y := by
  cases p with
  | zero => omega
  | succ p => simp at h; simp [ltAt, h]
def insN (x : Nogood) (acc : List Nogood) : List Nogood := acc.take (placeN x acc acc.length) ++ [x] ++ acc.drop (placeN x acc acc.length)
def rsortL : List Nogood → List Nogood → List Nogood
  | acc, [] => acc
  | acc, x :: r => rsortL (insN x acc) r
theorem placeN_spec (x : Nogood) (acc : List Nogood) : ∀ p, p ≤ acc.length → placeN x acc p ≤ p ∧ (∀ j y, placeN x acc p ≤ j → j < p → acc[j]? = some y → LtN x y) ∧ (∀ q y, placeN x acc p = q + 1 → acc[q]? = some y → ¬ LtN x y) := by
  intro p
  induction p with
  | zero => intro _; simp [placeN]
  | succ p ih =>
    intro hp
    obtain ⟨i1, i2, i3⟩ := ih (by omega)
    have hy : acc[p]? = some acc[p] := List.getElem?_eq_getElem (by omega)
    have hat : ltAt x acc (p + 1) = ltNB x acc[p] := ltAt_pos (by omega) (by simp)
    rw [placeN]
    split
    · rename_i h
      rw [hat] at h
      refine ⟨by omega, fun j y h1 h2 h3 => ?_, i3⟩
      by_cases hj : j = p
      · subst hj
        rw [hy] at h3
        injection h3 with h3
        rw [← h3]
        exact (ltNB_iff _ _).1 h
      · exact i2 j y h1 (by omega) h3
    · rename_i h
      rw [hat] at h
      refine ⟨by omega, fun j y h1 h2 _ => by omega, fun q y h1 h2 h3 => ?_⟩
      have : q = p := by omega
      subst this
      rw [hy] at h2
      injection h2 with h2
      rw [← h2] at h3
      exact h ((ltNB_iff _ _).2 h3)
theorem insN_perm (x : Nogood) (acc : List Nogood) : (insN x acc).Perm (x :: acc) := by
  unfold insN
  have := List.perm_middle (a := x) (l₁ := acc.take (placeN x acc acc.length)) (l₂ := acc.drop (placeN x acc acc.length))
  rw [List.take_append_drop] at this
  simpa using this
theorem insN_length (x : Nogood) (acc : List Nogood) : (insN x acc).length = acc.length + 1 := by simpa using (insN_perm x acc).length_eq
theorem insN_sorted (x : Nogood) (acc : List Nogood) (hs : acc.Pairwise (fun x y => LtN x y ∨ x = y)) : (insN x acc).Pairwise (fun x y => LtN x y ∨ x = y) := by
  obtain ⟨h1, h2, h3⟩ := placeN_spec x acc acc.length (Nat.le_refl _)
  unfold insN
  generalize placeN x acc acc.length = p at h1 h2 h3
  have hs2 := hs
  rw [← List.take_append_drop p acc] at hs2
  obtain ⟨t1, t2, t3⟩ := List.pairwise_append.1 hs2
  have ha : ∀ a ∈ acc.take p, LtN a x ∨ a = x := by
    intro a ha
    obtain ⟨i, hi, e⟩ := List.mem_iff_getElem.1 ha
    simp at hi
    obtain ⟨q, rfl⟩ : ∃ q, p = q + 1 := ⟨p - 1, by omega⟩
    have hy : acc[q]? = some acc[q] := List.getElem?_eq_getElem (by omega)
    have hyx := (leN_iff acc[q] x).1 (h3 q _ rfl hy)
    rw [List.getElem_take] at e
    by_cases hiq : i = q
    · subst hiq; rw [← e]; exact hyx
    · have := List.pairwise_iff_getElem.1 hs i q (by omega) (by omega) (by omega)
      rw [e] at this
      exact leN_trans this hyx
  have hb : ∀ b ∈ acc.drop p, LtN x b ∨ x = b := by
    intro b hb
    obtain ⟨i, hi, e⟩ := List.mem_iff_getElem.1 hb
    simp at hi
    rw [List.getElem_drop] at e
    exact .inl (h2 (p + i) b (by omega) (by omega) (by rw [← e]; exact List.getElem?_eq_getElem (by omega)))
  rw [List.append_assoc]
  refine List.pairwise_append.2 ⟨t1, List.pairwise_append.2 ⟨by simp, t2, fun a h b hb' => ?_⟩, fun a h b hb' => ?_⟩
  · simp at h; subst h; exact hb b hb'
  · rcases List.mem_append.1 hb' with h' | h'
    · simp at h'; subst h'; exact ha a h
    · exact t3 a h b h'
theorem rsortL_spec (r : List Nogood) : ∀ acc, acc.Pairwise (fun x y => LtN x y ∨ x = y) → (rsortL acc r).Pairwise (fun x y => LtN x y ∨ x = y) ∧ (rsortL acc r).Perm (acc ++ r) := by
  induction r with
  | nil => intro acc h; exact ⟨h, by simp [rsortL]⟩
  | cons x r ih =>
    intro acc h
    obtain ⟨a, b⟩ := ih _ (insN_sorted x acc h)
    refine ⟨a, b.trans ?_⟩
    exact ((insN_perm x acc).append_right r).trans (by simpa using (List.perm_middle (a := x) (l₁ := acc) (l₂ := r)).symm)
theorem rsortL_eq (l : List Nogood) : rsortL [] l = sortN l := by
  obtain ⟨a, b⟩ := rsortL_spec l [] List.Pairwise.nil
  exact sortN_unique (by simpa using b) a

/-- the m nogoods that lie at A in w1, their facts in w -/
def SrcN (w w1 : World) (A : Option Addr) (m : Nat) (l : List Nogood) : Prop :=
  ∃ its : List Item, its.map (·.2) = l ∧ (∀ x ∈ its, FactsAt w (.slice x.1.1 x.1.2.1 x.1.2.2) x.2.1) ∧ Reads w1 w1.heap.size 2 A m (itemCells its)
theorem itemCells_take (l : List Item) : ∀ p, itemCells (l.take p) = (itemCells l).take (p * 2) := by
  induction l with
  | nil => intro p; simp [itemCells]
  | cons x r ih =>
    intro p
    cases p with
    | zero => simp [itemCells]
    | succ p => rw [List.take_succ_cons, itemCells, itemCells, ih, show (p + 1) * 2 = p * 2 + 1 + 1 from by omega, List.take_succ_cons, List.take_succ_cons]
theorem itemCells_drop (l : List Item) : ∀ p, itemCells (l.drop p) = (itemCells l).drop (p * 2) := by
  induction l with
  | nil => intro p; simp [itemCells]
  | cons x r ih =>
    intro p
    cases p with
    | zero => simp [itemCells]
    | succ p => rw [List.drop_succ_cons, itemCells, ih, show (p + 1) * 2 = p * 2 + 1 + 1 from by omega, List.drop_succ_cons, List.drop_succ_cons]
theorem OwnR.slot {w0 w : World} {base : Nat} {v : Value} {l : List Nogood} (h : OwnR w0 w base v l) : (v = .slice none 0 0 ∧ l = []) ∨ ∃ g c, v = .slice (some ⟨g, 0, none⟩) l.length c ∧ l.length ≤ c ∧ c ≤ maxLen := by
  obtain ⟨its, _, h, _⟩ := h
  rcases h.2 with ⟨rfl, h0⟩ | ⟨g, cap, cur, rfl, _, _, hnc, hmx, _, _⟩
  · exact .inl ⟨rfl, List.length_eq_zero_iff.1 h0⟩
  · exact .inr ⟨g, cap, rfl, hnc, hmx⟩
theorem OwnR.empty {w0 w : World} {base G : Nat} (hG : w.heap[G]? = some (.cells #[] 45 (0, 0))) (hb : base ≤ G) : OwnR w0 w base (.slice (some ⟨G, 0, none⟩) 0 0) [] :=
  ⟨[], rfl, ⟨rfl, .inr ⟨G, 0, #[], rfl, hb, hG, Nat.le_refl _, by simp [maxLen], rfl, rfl⟩⟩, fun x hx => by cases hx⟩
theorem OwnR.reads {w0 w : World} {base : Nat} {A : Option Addr} {n c : Nat} {l : List Nogood} (h : OwnR w0 w base (.slice A n c) l) : n = l.length ∧ SrcN w0 w A n l := by
  obtain ⟨A', c', hv⟩ := h.form
  obtain ⟨its, h1, h2, h3⟩ := h
  injection hv with a1 a2 a3
  subst a1 a2 a3
  exact ⟨rfl, its, h1, h3, Reads.of_own h2⟩
theorem SrcN.take {w w1 : World} {A : Option Addr} {n : Nat} {l : List Nogood} (h : SrcN w w1 A n l) {p : Nat} (hp : p ≤ n) (hn : n = l.length) : SrcN w w1 A p (l.take p) := by
  obtain ⟨its, h1, h2, h3, h4⟩ := h
  have hl : its.length = n := by rw [hn, ← h1]; simp
  refine ⟨its.take p, by rw [List.map_take, h1], fun x hx => h2 x (List.mem_of_mem_take hx), by rw [itemCells_length, List.length_take]; omega, fun hp0 => ?_⟩
  obtain ⟨ad, e, hb, hc⟩ := h4 (by omega)
  refine ⟨ad, e, hb, fun j u hu => hc j u ?_⟩
  rw [itemCells_take, List.getElem?_take] at hu
  split at hu
  · exact hu
  · cases hu
theorem SrcN.drop {w w1 : World} {g n : Nat} {A' : Option Addr} {l : List Nogood} (h : SrcN w w1 (some ⟨g, 0, none⟩) n l) {p : Nat} (hp : p ≤ n) (hn : n = l.length) (hA : n - p = 0 ∨ A' = some ⟨g, p * 2, none⟩) : SrcN w w1 A' (n - p) (l.drop p) := by
  obtain ⟨its, h1, h2, h3, h4⟩ := h
  have hl : its.length = n := by rw [hn, ← h1]; simp
  refine ⟨its.drop p, by rw [List.map_drop, h1], fun x hx => h2 x (List.mem_of_mem_drop hx), by rw [itemCells_length, List.length_drop]; omega, fun hp0 => ?_⟩
  obtain ⟨ad, e, hb, hc⟩ := h4 (by omega)
  injection e with e
  subst e
  refine ⟨⟨g, p * 2, none⟩, hA.resolve_left (by omega), hb, fun j u hu => ?_⟩
  rw [itemCells_drop, List.getElem?_drop] at hu
  have := hc _ u hu
  rw [add_plain] at this ⊢
  simpa using this
theorem lt_of_heap {w : World} {g : Nat} {o : Obj} (h : w.heap[g]? = some o) : g < w.heap.size := by
  rcases Nat.lt_or_ge g w.heap.size with h' | h'
  · exact h'
  · rw [Array.getElem?_eq_none h'] at h; cases h
theorem SrcN.one {w w1 : World} {M : Nat} {xA : Option Addr} {xn xc : Nat} {x : Nogood} (hM : w1.heap[M]? = some (.cells #[.slice xA xn xc, .int .i64 x.2] 45 (0, 0))) (hx : FactsAt w (.slice xA xn xc) x.1) : SrcN w w1 (some ⟨M, 0, none⟩) 1 [x] :=
  ⟨[((xA, xn, xc), x)], rfl, fun z hz => by simp at hz; subst hz; exact hx, rfl, fun _ => ⟨_, rfl, lt_of_heap hM, cells_at hM 0 _ (fun j u hu => by simpa [itemCells] using hu)⟩⟩

/-- an append of nogoods to a row of the call's own, in a region that draws -/
theorem step_append_R {ops : Array Oper} {o : Oper} {a : Act} {K : Act → World → Prop} {Q : Exit → Act → World → Prop} {E : Prop} (hgd : o.guard = none) (s y : Operand)
    (ho : o.op = .call { callee := .builtin .append, args := #[s, y], argTypes := #[23, 23] })
    {w w1 : World} {base : Nat} {v : Value} {l m : List Nogood} {A : Option Addr} {mm : Nat} (c : Nat) (hs : a.eval s = v) (hy : a.eval y = .slice A mm c) (hown : OwnR w w1 base v l) (hsrc : SrcN w w1 A mm m)
    (hlen : (l.length + mm) * 32 ≤ 140737488355328) (hbase : base ≤ w1.heap.size)
    (h : ∀ v' w', OwnR w w' base v' (l ++ m) → w1.grownBy w' v.ownBlock → K (a.put o.dst v') w') :
    if Region.wanted o (yielded ops a.tmps) = true then Oper.wp Tryd.prog o a w1 K Q else E := by
  obtain ⟨i0, hi0, hz0, hz1, hz2⟩ := info_parts nogoodInfo
  obtain ⟨its, h1, h2, h3⟩ := hown
  obtain ⟨jts, j1, j2, j3⟩ := hsrc
  have hm : mm = m.length := by have := j3.1; rw [itemCells_length] at this; rw [← j1]; simp; omega
  refine step_append_any _ hgd s y _ ho base 45 i0 _ 2 32 Tryd.underlying23 hi0 hz0 hz1 hz2 rfl (by omega) v l.length (itemCells its) hs h2 _ _ mm c (itemCells jts) hy j3 (itemCells_one _) (by simp only [maxLen]; omega) hlen hbase ?_
  intro v' w' g1 g2 _
  refine h v' w' ⟨its ++ jts, by simp [h1, j1], ?_, fun z hz => ?_⟩ g2
  · rw [itemCells_append, List.length_append, ← hm]; exact g1
  · rcases List.mem_append.1 hz with hz | hz
    · exact h3 z hz
    · exact j2 z hz
theorem bsize {w w' : World} (h : Below w.heap.size w w') : w.heap.size ≤ w'.heap.size := h.size
theorem two0 (W : World) (o1 o2 : Obj) : ((W.alloc o1).alloc o2).heap[W.heap.size]? = some o1 := by
  rw [(belowA (Below.refl _ _) _).block _ (by simp)]
  exact heap_alloc_new W o1
theorem two1 (W : World) (o1 o2 : Obj) : ((W.alloc o1).alloc o2).heap[W.heap.size + 1]? = some o2 := by
  have := heap_alloc_new (W.alloc o1) o2
  simpa using this
theorem grown_other {w w' : World} {row : Option Nat} (hg : w.grownBy w' row) (g : Nat) (hne : some g ≠ row) : ∀ o, w.heap[g]? = some o → w'.heap[g]? = some o := fun _ h => (hg.block g (lt_of_heap h) hne).trans h


set_option maxHeartbeats 8000000 in
set_option maxRecDepth 100000 in
theorem rsort_calls (bd : Int) (v : Value) (l : List Nogood) (w : World) (hv : NogoodsAt w v l) :
    Calls Tryd.prog 24 #[.agg #[.int .i64 bd, v]] w fun e w' => ∃ v', e = .returned (.agg #[.int .i64 bd, v']) ∧ NogoodsAt w' v' (sortC bd l) ∧ Below w.heap.size w w' := by
  obtain ⟨A, n, c, rfl, hn, hm⟩ := hv.form
  have hroom : n * 32 ≤ 140737488355328 := by obtain ⟨_, _, hv', hl, _⟩ := id hv; injection hv' with _ h2 _; omega
  obtain ⟨W0, hW0⟩ : ∃ W0, W0 = (w.alloc (.cells #[.int .i64 bd, .slice A n c] 25)).alloc (.cells #[.int .i64 0, .slice none 0 0] 25) := ⟨_, rfl⟩
  have hBW : Below w.heap.size w W0 := by rw [hW0]; exact belowA (belowA (Below.refl _ _) _) _
  have p0 : W0.cell? ⟨w.heap.size, 0, none⟩ = some (.int .i64 bd) := by rw [hW0]; simp
  have p1 : W0.cell? ⟨w.heap.size, 1, none⟩ = some (.slice A n c) := by rw [hW0]; simp
  have hrb : W0.heap[w.heap.size + 1]? = some (.cells #[.int .i64 0, .slice none 0 0] 25 (0, 0)) := by
    rw [hW0]
    have := heap_alloc_new (w.alloc (.cells #[.int .i64 bd, .slice A n c] 25)) (.cells #[.int .i64 0, .slice none 0 0] 25)
    simpa using this
  have hsz : w.heap.size + 2 = W0.heap.size := by rw [hW0]; simp
  have hv0 := hv.keep hBW
  have hck := rcheck_calls bd _ l _ hv0
  by_cases hz : checkF bd l = 0
  · have hso : sortC bd l = sortN l := if_pos hz
    obtain ⟨D, hD⟩ : ∃ D, D = rsortL [] l := ⟨_, rfl⟩
    have hDn : D = sortN l := by rw [hD, rsortL_eq]
    rw [hz] at hck
    rw [hso, ← hDn]
    have HV := Lib.hid hv
    have HN := Lib.hid hn
    have HW0 := Lib.hid hW0
    have HBW := Lib.hid hBW
    have HRB := Lib.hid hrb
    have HV0 := Lib.hid hv0
    have HSZ := Lib.hid hsz
    have HCK := Lib.hid hck
    have HSO := Lib.hid hso
    have HD := Lib.hid hD
    have HDN := Lib.hid hDn
    have HZ := Lib.hid hz
    clear hv hn hW0 hBW hrb hv0 hsz hck hso hD hDn hz
    go_enter Tryd.func24, Tryd.ntmps24
    go_upto_region 1 with fail
    rw [← HW0.out]
    go_upto_region 3 with (go_at_call 14; refine HCK.out.mono ?_; rintro e w1 ⟨rfl, hb1⟩; have q0 := kept hb1 p0; have q1 := kept hb1 p1; have HB1 := Lib.hid hb1; clear hb1)
    go_wp2_with fail
    go_loopg [3, 14] n (fun gh ov i wr => ∃ (k : Nat) (acc : List Nogood), k ≤ n ∧ gh = n - k ∧ i = .int .i64 k ∧ Below w1.heap.size w1 wr ∧ OwnR w wr w1.heap.size ov acc ∧ acc.length = k ∧ (k = 0 → ov = .slice none 0 0) ∧ D = rsortL acc (l.drop k))
    case atStart => exact ⟨0, [], Nat.zero_le _, by omega, rfl, Below.refl _ _, OwnR.nil_ _ _ _, rfl, fun _ => rfl, HD.out⟩
    case round =>
      obtain ⟨k, acc, hk, hg, rfl, hB, hown, hal, hnz, hF⟩ := hrel
      obtain ⟨wo, rfl⟩ : ∃ wo : World, wo = wr := ⟨_, rfl⟩
      have hBw : Below w.heap.size w wo := belowT HBW.out (belowT HB1.out hB)
      have u0 := kept hB q0
      have u1 := kept hB q1
      obtain ⟨oA, oc, rfl⟩ := hown.form
      rw [hal] at hown hnz
      by_cases hlt : k < n
      · obtain ⟨bb, off, xA, xn, xc, x, xd, rfl, c0, hxn, hxm, hxv, c1, hx, hd⟩ := HV.out.at hlt
        have d0 := kept hBw c0
        have d1 := kept hBw c1
        have hbr : bb < wo.heap.size := lt_of_cell d0
        obtain ⟨PD, hPD⟩ : ∃ PD, PD = placeN (x, xd) acc k := ⟨_, rfl⟩
        have hst : D = rsortL (acc.take PD ++ [(x, xd)] ++ acc.drop PD) (l.drop (k + 1)) := by rw [hF, hd, rsortL, insN, hal, hPD]
        have hW5b : Below wo.heap.size wo (wo.alloc (.cells #[.slice xA xn xc, .int .i64 xd] 45)) := belowA (Below.refl _ _) _
        have r0 : (wo.alloc (.cells #[.slice xA xn xc, .int .i64 xd] 45)).cell? ⟨wo.heap.size, 0, none⟩ = some (.slice xA xn xc) := by simp
        have r1 : (wo.alloc (.cells #[.slice xA xn xc, .int .i64 xd] 45)).cell? ⟨wo.heap.size, 1, none⟩ = some (.int .i64 xd) := by simp
        have HG := Lib.hid hg
        have HB := Lib.hid hB
        have HOWN := Lib.hid hown
        have HF := Lib.hid hF
        have HBw := Lib.hid hBw
        have C0 := Lib.hid c0
        have C1 := Lib.hid c1
        have HXN := Lib.hid hxn
        have HXV := Lib.hid hxv
        have HX := Lib.hid hx
        have HDD := Lib.hid hd
        have HPD := Lib.hid hPD
        have HST := Lib.hid hst
        have HAL := Lib.hid hal
        have HNZ := Lib.hid hnz
        clear hg hB hown hF hBw c0 c1 hxn hxv hx hd hPD hst hal hnz
        rw [HAL.out]
        go_upto_region 7 with fail
        generalize hW5 : wo.alloc (.cells #[.slice xA xn xc, .int .i64 xd] 45) = W5 at hW5b r0 r1 ⊢
        have v1 := kept hW5b u1
        have hB5 := belowT HBw.out hW5b
        have HW5B := Lib.hid hW5b
        have HB5 := Lib.hid hB5
        have HW5 := Lib.hid hW5
        clear hW5b hB5 hW5
        go_wp2_with fail
        go_loopg [6] k (fun g2 av w2 => ∃ (p : Nat), p ≤ k ∧ g2 = p ∧ av = .int .i64 p ∧ Below W5.heap.size W5 w2 ∧ PD = placeN (x, xd) acc p)
        case atStart => exact ⟨k, Nat.le_refl _, rfl, rfl, Below.refl _ _, HPD.out⟩
        case round =>
          obtain ⟨p, hp, hg2, rfl, hB2, hF2⟩ := hrel
          have t0 := kept hB2 r0
          have t1 := kept hB2 r1
          have hst2 : PD = if ltAt (x, xd) acc p then placeN (x, xd) acc (p - 1) else p := by rw [hF2, placeN_step]
          have hold : OwnR w wr w1.heap.size (.slice oA k oc) acc := HOWN.out.keep (belowT HW5B.out hB2)
          have hnow : NogoodsAt wr (.slice oA k oc) acc := hold.nogoods (belowT HB5.out hB2) (by have := HAL.out; omega)
          obtain ⟨t, ht⟩ : ∃ t, ltAt (x, xd) acc p = t := ⟨_, rfl⟩
          rw [ht] at hst2
          have HF2 := Lib.hid hF2
          have HST2 := Lib.hid hst2
          have HOLD := Lib.hid hold
          have HB2 := Lib.hid hB2
          have HG2 := Lib.hid hg2
          clear hF2 hst2 hold hB2 hg2
          go_upto_region 8 with fail
          go_cut [54] (fun z wx => z = .bool t ∧ Below wr.heap.size wr wx)
          case first =>
            by_cases hp0 : p = 0
            · subst hp0
              have hfin : t = false := by rw [← ht]; rfl
              subst hfin
              have HT := Lib.hid ht
              have HNOW := Lib.hid hnow
              clear ht hnow
              refine wp_region_quiet_lit (by kernel_rfl) (by kernel_rfl) ?_
              repeat (any_goals (first | go_big_quiet_step (fail) | quiet_step (fail) | (refine wpQuiet_step (fun K hK => ?_); go_simp; split <;> (refine hK _ ?_; clear hK K))))
              all_goals (refine wpQuiet_nil ?_; intro _ hw'; obtain ⟨nq, hw''⟩ := hw'; subst hw'')
              all_goals (go_wp2_with fail; go_meet; exact ⟨rfl, below_drewN (Below.refl _ _) _⟩)
            · obtain ⟨b2, off2, yA, yn, yc, y, yd, rfl, e0, hyn, hym, hyv, e1, hy, hdy⟩ := hnow.at (k := p - 1) (by omega)
              have hlt3 : t = ltNB (x, xd) (y, yd) := by rw [← ht, ltAt_pos (by omega) hy]
              have z1 : ((p : Int) - 1).toNat = p - 1 := by omega
              have z2 : IntKind.i64.wrap ((p : Int) - 1) = (p : Int) - 1 := by rw [IntKind.wrap_i64]; omega
              have z3 : 0 ≤ (p : Int) - 1 := by omega
              have z4 : 1 ≤ (p : Int) := by omega
              have z5 : (p : Int) - 1 < k := by omega
              have dd : decide ((0 : Int) < p) = true := by simp; omega
              have dd2 : decide (0 < p) = true := by simp; omega
              have dd3 : decide ((p : Int) > 0) = true := by simp; omega
              by_cases h1 : xd < yd
              · have hfin : t = true := by rw [hlt3]; simp [ltNB, h1]
                subst hfin
                have h1' : decide (xd < yd) = true := by simpa using h1
                have HT := Lib.hid ht
                have HNOW := Lib.hid hnow
                have HLT3 := Lib.hid hlt3
                have HYN := Lib.hid hyn
                have HYV := Lib.hid hyv
                have HY := Lib.hid hy
                have HDY := Lib.hid hdy
                clear ht hnow hlt3 hyn hyv hy hdy
                refine wp_region_quiet_lit (by kernel_rfl) (by kernel_rfl) ?_
                repeat (any_goals (first | go_big_quiet_step (fail) | quiet_step (fail) | (refine wpQuiet_step (fun K hK => ?_); go_simp; split <;> (refine hK _ ?_; clear hK K))))
                all_goals (refine wpQuiet_nil ?_; intro _ hw'; obtain ⟨nq, hw''⟩ := hw'; subst hw'')
                all_goals (go_wp2_with fail; go_meet; exact ⟨rfl, below_drewN (Below.refl _ _) _⟩)
              · have h1' : decide (xd < yd) = false := by simpa using h1
                by_cases h2 : xd = yd
                · subst h2
                  have hfin : t = lessL x y := by rw [hlt3]; simp [ltNB]
                  have hle := less_calls _ _ x y wr.drew ((HXV.out.keep (belowT HB5.out HB2.out)).keep (Below.refl _ _).drew) (hyv.keep (Below.refl _ _).drew)
                  rw [← hfin] at hle
                  have HT := Lib.hid ht
                  have HNOW := Lib.hid hnow
                  have HLT3 := Lib.hid hlt3
                  have HYN := Lib.hid hyn
                  have HYV := Lib.hid hyv
                  have HY := Lib.hid hy
                  have HDY := Lib.hid hdy
                  have HFIN := Lib.hid hfin
                  have HLE := Lib.hid hle
                  have H1 := Lib.hid h1
                  clear ht hnow hlt3 hyn hyv hy hdy hfin hle h1
                  go_region_held3 (fun w' => w'.cell? ⟨wo.heap.size, 0, none⟩ = some (.slice xA xn xc) ∧ w'.cell? ⟨wo.heap.size, 1, none⟩ = some (.int .i64 xd) ∧ w'.cell? ⟨b2, off2 + (p - 1) * 2, none⟩ = some (.slice yA yn yc) ∧ w'.cell? ⟨b2, off2 + (p - 1) * 2 + 1, none⟩ = some (.int .i64 xd))
                    (first | exact ⟨s0, s1, s2, s3⟩ | exact ⟨t0, t1, e0, e1⟩)
                    (first
                      | (go_at_call 49; refine HLE.out.mono ?_; rintro e w7 ⟨rfl, hb7⟩; have s0 := kept hb7 t0; have s1 := kept hb7 t1; have s2 := kept hb7 e0; have s3 := kept hb7 e1; have HB7 : Hid (Below wr.heap.size wr w7) := belowT ((Below.refl _ _).drew) hb7; clear hb7)
                      | fail)
                  all_goals (go_wp2_with fail; go_meet; exact ⟨rfl, HB7.out⟩)
                · have hfin : t = false := by rw [hlt3]; simp [ltNB, h1, h2]
                  subst hfin
                  have h2' : (xd == yd) = false := by simpa using h2
                  have HT := Lib.hid ht
                  have HNOW := Lib.hid hnow
                  have HLT3 := Lib.hid hlt3
                  have HYN := Lib.hid hyn
                  have HYV := Lib.hid hyv
                  have HY := Lib.hid hy
                  have HDY := Lib.hid hdy
                  clear ht hnow hlt3 hyn hyv hy hdy
                  refine wp_region_quiet_lit (by kernel_rfl) (by kernel_rfl) ?_
                  repeat (any_goals (first | go_big_quiet_step (fail) | quiet_step (fail) | (refine wpQuiet_step (fun K hK => ?_); go_simp; split <;> (refine hK _ ?_; clear hK K))))
                  all_goals (refine wpQuiet_nil ?_; intro _ hw'; obtain ⟨nq, hw''⟩ := hw'; subst hw'')
                  all_goals (go_wp2_with fail; go_meet; exact ⟨rfl, below_drewN (Below.refl _ _) _⟩)
          case rest =>
            obtain ⟨rfl, hB7⟩ := hcut
            have hB57 := belowT HB2.out hB7
            clear hnow
            cases t
            · have hst3 : D = rsortL (acc.take p ++ [(x, xd)] ++ acc.drop p) (l.drop (k + 1)) := by rw [HST.out, HST2.out]; simp
              have n0 := kept hB57 r0
              have n1 := kept hB57 r1
              have hold' := HOLD.out.keep hB7
              have hs1 : w1.heap.size ≤ wc.heap.size := by have := (belowT HB.out (belowT HW5B.out hB57)).size; omega
              have hs1' := hs1
              rcases hold'.slot with ⟨hv0, hnil⟩ | ⟨g, cc, hv0, hcc, hmx⟩
              · injection hv0 with a1 a2 a3
                subst a1 a2 a3
                obtain rfl : p = 0 := by omega
                have hsrc1 : ∀ W, Below wc.heap.size wc W → SrcN w W none 0 (acc.take 0) := fun W _ => ⟨[], rfl, fun x hx => (by cases hx), Reads.none_⟩
                have hsrc2 : ∀ W, Below wc.heap.size wc W → SrcN w W none (0 - 0) (acc.drop 0) := fun W _ => ⟨[], by rw [hnil]; rfl, fun x hx => (by cases hx), Reads.none_⟩
                have hgE0 := heap_alloc_new wc (.cells #[] 45)
                have hgEN0 := two0 wc (.cells #[] 45) (.cells #[.slice xA xn xc, .int .i64 xd] 45)
                have hgEN1 := two1 wc (.cells #[] 45) (.cells #[.slice xA xn xc, .int .i64 xd] 45)
                have hgNE0 := two0 wc (.cells #[.slice xA xn xc, .int .i64 xd] 45) (.cells #[] 45)
                have hgNE1 := two1 wc (.cells #[.slice xA xn xc, .int .i64 xd] 45) (.cells #[] 45)
                have hL1 : (([] : List Nogood).length + 0) * 32 ≤ 140737488355328 := by rw [List.length_nil]; omega
                have hL2 : ((([] : List Nogood) ++ acc.take 0).length + 1) * 32 ≤ 140737488355328 := by rw [List.nil_append, List.length_take, HAL.out]; omega
                have hL3 : (((([] : List Nogood) ++ acc.take 0) ++ [(x, xd)]).length + (0 - 0)) * 32 ≤ 140737488355328 := by rw [List.length_append, List.nil_append, List.length_take, HAL.out, List.length_singleton]; omega
                have HST3 := Lib.hid hst3
                have HOLD' := Lib.hid hold'
                have HB7 := Lib.hid hB7
                have HB57 := Lib.hid hB57
                have HT := Lib.hid ht
                have GE0 := Lib.hid hgE0
                have GEN0 := Lib.hid hgEN0
                have GEN1 := Lib.hid hgEN1
                have GNE0 := Lib.hid hgNE0
                have GNE1 := Lib.hid hgNE1
                have HL1 := Lib.hid hL1
                have HL2 := Lib.hid hL2
                have HL3 := Lib.hid hL3
                have SRC1 := Lib.hid hsrc1
                have SRC2 := Lib.hid hsrc2
                clear hst3 hold' hB7 hB57 ht hgE0 hgEN0 hgEN1 hgNE0 hgNE1 hL1 hL2 hL3 hsrc1 hsrc2
                go_upto_region 10 with fail
                go_region_held3 (fun w' => w'.cell? ⟨wo.heap.size, 0, none⟩ = some (.slice xA xn xc) ∧ w'.cell? ⟨wo.heap.size, 1, none⟩ = some (.int .i64 xd))
                  (refine ⟨?_, ?_⟩ <;> first | exact n0 | exact n1 | exact s0 | exact s1 | (refine kept ?_ n0; (repeat' first | exact Below.refl _ _ | refine Below.drew ?_ | refine belowA ?_ _); done) | (refine kept ?_ n1; (repeat' first | exact Below.refl _ _ | refine Below.drew ?_ | refine belowA ?_ _); done) | (refine kept ?_ s0; (repeat' first | exact Below.refl _ _ | refine Below.drew ?_ | refine belowA ?_ _); done) | (refine kept ?_ s1; (repeat' first | exact Below.refl _ _ | refine Below.drew ?_ | refine belowA ?_ _); done))
                  (first
                    | (refine step_append_R rfl (.tmp 57) (.tmp 60) rfl (w := w) (base := wc.heap.size) (v := .slice (some ⟨wc.heap.size, 0, none⟩) 0 0) (l := []) (m := acc.take 0) (A := none) (mm := 0) 0 rfl rfl (OwnR.empty (by first | exact GE0.out | exact GEN0.out) (Nat.le_refl _)) (SRC1.out _ (by repeat' first | exact Below.refl _ _ | refine Below.drew ?_ | refine belowA ?_ _)) HL1.out (bsize (by repeat' first | exact Below.refl _ _ | refine Below.drew ?_ | refine belowA ?_ _)) ?_; intro v6 w6 ho6 hg6; have HB6 : Hid (Below wc.heap.size wc w6) := Below.trans (by repeat' first | exact Below.refl _ _ | refine Below.drew ?_ | refine belowA ?_ _) (below_of_grown hg6 (bsize (by repeat' first | exact Below.refl _ _ | refine Below.drew ?_ | refine belowA ?_ _)) (fun r e => (by have e' : some wc.heap.size = some r := e; injection e' with e'; omega))); have HM6 := Lib.hid (grown_other hg6 (wc.heap.size + 1) (fun e => (by have e' : some (wc.heap.size + 1) = some wc.heap.size := e; injection e' with e'; omega))); have HO6 := Lib.hid ho6; have s0 := kept HB6.out n0; have s1 := kept HB6.out n1; clear ho6 hg6)
                    | (refine step_append_R rfl (.tmp 57) (.tmp 60) rfl (w := w) (base := wc.heap.size) (v := .slice (some ⟨wc.heap.size + 1, 0, none⟩) 0 0) (l := []) (m := acc.take 0) (A := none) (mm := 0) 0 rfl rfl (OwnR.empty (by exact GNE1.out) (Nat.le_succ _)) (SRC1.out _ (by repeat' first | exact Below.refl _ _ | refine Below.drew ?_ | refine belowA ?_ _)) HL1.out (bsize (by repeat' first | exact Below.refl _ _ | refine Below.drew ?_ | refine belowA ?_ _)) ?_; intro v6 w6 ho6 hg6; have HB6 : Hid (Below wc.heap.size wc w6) := Below.trans (by repeat' first | exact Below.refl _ _ | refine Below.drew ?_ | refine belowA ?_ _) (below_of_grown hg6 (bsize (by repeat' first | exact Below.refl _ _ | refine Below.drew ?_ | refine belowA ?_ _)) (fun r e => (by have e' : some (wc.heap.size + 1) = some r := e; injection e' with e'; omega))); have HM6 := Lib.hid (grown_other hg6 wc.heap.size (fun e => (by have e' : some wc.heap.size = some (wc.heap.size + 1) := e; injection e' with e'; omega))); have HO6 := Lib.hid ho6; have s0 := kept HB6.out n0; have s1 := kept HB6.out n1; clear ho6 hg6)
                    | (refine step_append_R rfl (.tmp 61) (.tmp 63) rfl (w := w) (base := wc.heap.size) (v := v6) (l := [] ++ acc.take 0) (m := [(x, xd)]) (A := some ⟨w6.heap.size, 0, none⟩) (mm := 1) 1 rfl rfl (HO6.out.keep (by repeat' first | exact Below.refl _ _ | refine Below.drew ?_ | refine belowA ?_ _)) (SrcN.one (x := (x, xd)) (xA := xA) (xn := xn) (xc := xc) (by first | exact heap_alloc_new w6 _ | exact HM6.out _ GEN1.out | exact HM6.out _ GNE0.out) HXV.out) HL2.out (bsize (by repeat' first | exact HB6.out | refine Below.drew ?_ | refine belowA ?_ _)) ?_; intro v7 w7 ho7 hg7; have HB7' : Hid (Below wc.heap.size wc w7) := Below.trans (by repeat' first | exact HB6.out | refine Below.drew ?_ | refine belowA ?_ _) (below_of_grown hg7 (bsize (by repeat' first | exact HB6.out | refine Below.drew ?_ | refine belowA ?_ _)) (fun r e => (HO6.out.lt r e).1)); have HO7 := Lib.hid ho7; have s0 := kept HB7'.out n0; have s1 := kept HB7'.out n1; clear ho7 hg7)
                    | (refine step_append_R rfl (.tmp 61) (.tmp 63) rfl (w := w) (base := wc.heap.size) (v := v6) (l := [] ++ acc.take 0) (m := [(x, xd)]) (A := some ⟨(wc.heap.size+1), 0, none⟩) (mm := 1) 1 rfl rfl (HO6.out.keep (by repeat' first | exact Below.refl _ _ | refine Below.drew ?_ | refine belowA ?_ _)) (SrcN.one (x := (x, xd)) (xA := xA) (xn := xn) (xc := xc) (by first | exact heap_alloc_new w6 _ | exact HM6.out _ GEN1.out | exact HM6.out _ GNE0.out) HXV.out) HL2.out (bsize (by repeat' first | exact HB6.out | refine Below.drew ?_ | refine belowA ?_ _)) ?_; intro v7 w7 ho7 hg7; have HB7' : Hid (Below wc.heap.size wc w7) := Below.trans (by repeat' first | exact HB6.out | refine Below.drew ?_ | refine belowA ?_ _) (below_of_grown hg7 (bsize (by repeat' first | exact HB6.out | refine Below.drew ?_ | refine belowA ?_ _)) (fun r e => (HO6.out.lt r e).1)); have HO7 := Lib.hid ho7; have s0 := kept HB7'.out n0; have s1 := kept HB7'.out n1; clear ho7 hg7)
                    | (refine step_append_R rfl (.tmp 61) (.tmp 63) rfl (w := w) (base := wc.heap.size) (v := v6) (l := [] ++ acc.take 0) (m := [(x, xd)]) (A := some ⟨wc.heap.size, 0, none⟩) (mm := 1) 1 rfl rfl (HO6.out.keep (by repeat' first | exact Below.refl _ _ | refine Below.drew ?_ | refine belowA ?_ _)) (SrcN.one (x := (x, xd)) (xA := xA) (xn := xn) (xc := xc) (by first | exact heap_alloc_new w6 _ | exact HM6.out _ GEN1.out | exact HM6.out _ GNE0.out) HXV.out) HL2.out (bsize (by repeat' first | exact HB6.out | refine Below.drew ?_ | refine belowA ?_ _)) ?_; intro v7 w7 ho7 hg7; have HB7' : Hid (Below wc.heap.size wc w7) := Below.trans (by repeat' first | exact HB6.out | refine Below.drew ?_ | refine belowA ?_ _) (below_of_grown hg7 (bsize (by repeat' first | exact HB6.out | refine Below.drew ?_ | refine belowA ?_ _)) (fun r e => (HO6.out.lt r e).1)); have HO7 := Lib.hid ho7; have s0 := kept HB7'.out n0; have s1 := kept HB7'.out n1; clear ho7 hg7)
                    | (refine step_append_R rfl (.tmp 64) (.tmp 67) rfl (w := w) (base := wc.heap.size) (v := v7) (l := ([] ++ acc.take 0) ++ [(x, xd)]) (m := acc.drop 0) (A := none) (mm := 0 - 0) 0 rfl rfl (HO7.out.keep (by repeat' first | exact Below.refl _ _ | refine Below.drew ?_ | refine belowA ?_ _)) (SRC2.out _ (by repeat' first | exact HB7'.out | refine Below.drew ?_ | refine belowA ?_ _)) HL3.out (bsize (by repeat' first | exact HB7'.out | refine Below.drew ?_ | refine belowA ?_ _)) ?_; intro v8 w8 ho8 hg8; have HB8 : Hid (Below wc.heap.size wc w8) := Below.trans (by repeat' first | exact HB7'.out | refine Below.drew ?_ | refine belowA ?_ _) (below_of_grown hg8 (bsize (by repeat' first | exact HB7'.out | refine Below.drew ?_ | refine belowA ?_ _)) (fun r e => (HO7.out.lt r e).1)); have HO8 := Lib.hid ho8; have s0 := kept HB8.out n0; have s1 := kept HB8.out n1; clear ho8 hg8)
                    | fail)
                all_goals
                  go_wp2_with fail
                  go_roundg (n - (0 + 1))
                  case measure => have := HG.out; omega
                  case rel =>
                    refine ⟨0 + 1, _, by omega, rfl, by go_num, belowT HB.out (belowT HW5B.out (belowT HB57.out (by first | exact HB8.out | exact HB8.out.drew | exact below_drewN HB8.out _))), (HO8.out.keep (by first | exact Below.refl _ _ | exact (Below.refl _ _).drew | exact below_drewN (Below.refl _ _) _)).mono hs1', ?_, fun h => absurd h (by omega), HST3.out⟩
                    rw [List.length_append, List.length_append, List.nil_append, List.length_take, List.length_drop, HAL.out, List.length_singleton]
                    omega
              · injection hv0 with a1 a2 a3
                subst a1 a3
                have hk0 : k ≠ 0 := fun h => by have := HNZ.out h; simp at this
                have hoc : ¬ oc = 0 := by have := HAL.out; omega
                have z1 : p ≤ oc := by have := HAL.out; omega
                have z2 : (p : Int) ≤ oc := by omega
                have z3 : (p : Int) ≤ k := by omega
                clear a2
                have hsrc1 : ∀ W, Below wc.heap.size wc W → SrcN w W (some ⟨g, 0, none⟩) p (acc.take p) := fun W hW => (hold'.keep hW).reads.2.take hp HAL.out.symm
                by_cases hpo : oc = p
                · subst hpo
                  have hsrc2 : ∀ W, Below wc.heap.size wc W → SrcN w W (some ⟨g, 0, none⟩) (k - oc) (acc.drop oc) := fun W hW => (hold'.keep hW).reads.2.drop hp HAL.out.symm (.inl (by have := HAL.out; omega))
                  have HCC := Lib.hid hcc
                  have HMX := Lib.hid hmx
                  clear hcc hmx
                  have hgE0 := heap_alloc_new wc (.cells #[] 45)
                  have hgEN0 := two0 wc (.cells #[] 45) (.cells #[.slice xA xn xc, .int .i64 xd] 45)
                  have hgEN1 := two1 wc (.cells #[] 45) (.cells #[.slice xA xn xc, .int .i64 xd] 45)
                  have hgNE0 := two0 wc (.cells #[.slice xA xn xc, .int .i64 xd] 45) (.cells #[] 45)
                  have hgNE1 := two1 wc (.cells #[.slice xA xn xc, .int .i64 xd] 45) (.cells #[] 45)
                  have hL1 : (([] : List Nogood).length + oc) * 32 ≤ 140737488355328 := by rw [List.length_nil]; omega
                  have hL2 : ((([] : List Nogood) ++ acc.take oc).length + 1) * 32 ≤ 140737488355328 := by rw [List.nil_append, List.length_take, HAL.out]; omega
                  have hL3 : (((([] : List Nogood) ++ acc.take oc) ++ [(x, xd)]).length + (k - oc)) * 32 ≤ 140737488355328 := by rw [List.length_append, List.nil_append, List.length_take, HAL.out, List.length_singleton]; omega
                  have HST3 := Lib.hid hst3
                  have HOLD' := Lib.hid hold'
                  have HB7 := Lib.hid hB7
                  have HB57 := Lib.hid hB57
                  have HT := Lib.hid ht
                  have GE0 := Lib.hid hgE0
                  have GEN0 := Lib.hid hgEN0
                  have GEN1 := Lib.hid hgEN1
                  have GNE0 := Lib.hid hgNE0
                  have GNE1 := Lib.hid hgNE1
                  have HL1 := Lib.hid hL1
                  have HL2 := Lib.hid hL2
                  have HL3 := Lib.hid hL3
                  have SRC1 := Lib.hid hsrc1
                  have SRC2 := Lib.hid hsrc2
                  clear hst3 hold' hB7 hB57 ht hgE0 hgEN0 hgEN1 hgNE0 hgNE1 hL1 hL2 hL3 hsrc1 hsrc2
                  go_upto_region 10 with fail
                  go_region_held3 (fun w' => w'.cell? ⟨wo.heap.size, 0, none⟩ = some (.slice xA xn xc) ∧ w'.cell? ⟨wo.heap.size, 1, none⟩ = some (.int .i64 xd))
                    (refine ⟨?_, ?_⟩ <;> first | exact n0 | exact n1 | exact s0 | exact s1 | (refine kept ?_ n0; (repeat' first | exact Below.refl _ _ | refine Below.drew ?_ | refine belowA ?_ _); done) | (refine kept ?_ n1; (repeat' first | exact Below.refl _ _ | refine Below.drew ?_ | refine belowA ?_ _); done) | (refine kept ?_ s0; (repeat' first | exact Below.refl _ _ | refine Below.drew ?_ | refine belowA ?_ _); done) | (refine kept ?_ s1; (repeat' first | exact Below.refl _ _ | refine Below.drew ?_ | refine belowA ?_ _); done))
                    (first
                      | (refine step_append_R rfl (.tmp 57) (.tmp 60) rfl (w := w) (base := wc.heap.size) (v := .slice (some ⟨wc.heap.size, 0, none⟩) 0 0) (l := []) (m := acc.take oc) (A := (some<|⟨g,0,none⟩)) (mm := oc) oc rfl rfl (OwnR.empty (by first | exact GE0.out | exact GEN0.out) (Nat.le_refl _)) (SRC1.out _ (by repeat' first | exact Below.refl _ _ | refine Below.drew ?_ | refine belowA ?_ _)) HL1.out (bsize (by repeat' first | exact Below.refl _ _ | refine Below.drew ?_ | refine belowA ?_ _)) ?_; intro v6 w6 ho6 hg6; have HB6 : Hid (Below wc.heap.size wc w6) := Below.trans (by repeat' first | exact Below.refl _ _ | refine Below.drew ?_ | refine belowA ?_ _) (below_of_grown hg6 (bsize (by repeat' first | exact Below.refl _ _ | refine Below.drew ?_ | refine belowA ?_ _)) (fun r e => (by have e' : some wc.heap.size = some r := e; injection e' with e'; omega))); have HM6 := Lib.hid (grown_other hg6 (wc.heap.size + 1) (fun e => (by have e' : some (wc.heap.size + 1) = some wc.heap.size := e; injection e' with e'; omega))); have HO6 := Lib.hid ho6; have s0 := kept HB6.out n0; have s1 := kept HB6.out n1; clear ho6 hg6)
                      | (refine step_append_R rfl (.tmp 57) (.tmp 60) rfl (w := w) (base := wc.heap.size) (v := .slice (some ⟨wc.heap.size + 1, 0, none⟩) 0 0) (l := []) (m := acc.take oc) (A := (some<|⟨g,0,none⟩)) (mm := oc) oc rfl rfl (OwnR.empty (by exact GNE1.out) (Nat.le_succ _)) (SRC1.out _ (by repeat' first | exact Below.refl _ _ | refine Below.drew ?_ | refine belowA ?_ _)) HL1.out (bsize (by repeat' first | exact Below.refl _ _ | refine Below.drew ?_ | refine belowA ?_ _)) ?_; intro v6 w6 ho6 hg6; have HB6 : Hid (Below wc.heap.size wc w6) := Below.trans (by repeat' first | exact Below.refl _ _ | refine Below.drew ?_ | refine belowA ?_ _) (below_of_grown hg6 (bsize (by repeat' first | exact Below.refl _ _ | refine Below.drew ?_ | refine belowA ?_ _)) (fun r e => (by have e' : some (wc.heap.size + 1) = some r := e; injection e' with e'; omega))); have HM6 := Lib.hid (grown_other hg6 wc.heap.size (fun e => (by have e' : some wc.heap.size = some (wc.heap.size + 1) := e; injection e' with e'; omega))); have HO6 := Lib.hid ho6; have s0 := kept HB6.out n0; have s1 := kept HB6.out n1; clear ho6 hg6)
                      | (refine step_append_R rfl (.tmp 61) (.tmp 63) rfl (w := w) (base := wc.heap.size) (v := v6) (l := [] ++ acc.take oc) (m := [(x, xd)]) (A := some ⟨w6.heap.size, 0, none⟩) (mm := 1) 1 rfl rfl (HO6.out.keep (by repeat' first | exact Below.refl _ _ | refine Below.drew ?_ | refine belowA ?_ _)) (SrcN.one (x := (x, xd)) (xA := xA) (xn := xn) (xc := xc) (by first | exact heap_alloc_new w6 _ | exact HM6.out _ GEN1.out | exact HM6.out _ GNE0.out) HXV.out) HL2.out (bsize (by repeat' first | exact HB6.out | refine Below.drew ?_ | refine belowA ?_ _)) ?_; intro v7 w7 ho7 hg7; have HB7' : Hid (Below wc.heap.size wc w7) := Below.trans (by repeat' first | exact HB6.out | refine Below.drew ?_ | refine belowA ?_ _) (below_of_grown hg7 (bsize (by repeat' first | exact HB6.out | refine Below.drew ?_ | refine belowA ?_ _)) (fun r e => (HO6.out.lt r e).1)); have HO7 := Lib.hid ho7; have s0 := kept HB7'.out n0; have s1 := kept HB7'.out n1; clear ho7 hg7)
                      | (refine step_append_R rfl (.tmp 61) (.tmp 63) rfl (w := w) (base := wc.heap.size) (v := v6) (l := [] ++ acc.take oc) (m := [(x, xd)]) (A := some ⟨(wc.heap.size+1), 0, none⟩) (mm := 1) 1 rfl rfl (HO6.out.keep (by repeat' first | exact Below.refl _ _ | refine Below.drew ?_ | refine belowA ?_ _)) (SrcN.one (x := (x, xd)) (xA := xA) (xn := xn) (xc := xc) (by first | exact heap_alloc_new w6 _ | exact HM6.out _ GEN1.out | exact HM6.out _ GNE0.out) HXV.out) HL2.out (bsize (by repeat' first | exact HB6.out | refine Below.drew ?_ | refine belowA ?_ _)) ?_; intro v7 w7 ho7 hg7; have HB7' : Hid (Below wc.heap.size wc w7) := Below.trans (by repeat' first | exact HB6.out | refine Below.drew ?_ | refine belowA ?_ _) (below_of_grown hg7 (bsize (by repeat' first | exact HB6.out | refine Below.drew ?_ | refine belowA ?_ _)) (fun r e => (HO6.out.lt r e).1)); have HO7 := Lib.hid ho7; have s0 := kept HB7'.out n0; have s1 := kept HB7'.out n1; clear ho7 hg7)
                      | (refine step_append_R rfl (.tmp 61) (.tmp 63) rfl (w := w) (base := wc.heap.size) (v := v6) (l := [] ++ acc.take oc) (m := [(x, xd)]) (A := some ⟨wc.heap.size, 0, none⟩) (mm := 1) 1 rfl rfl (HO6.out.keep (by repeat' first | exact Below.refl _ _ | refine Below.drew ?_ | refine belowA ?_ _)) (SrcN.one (x := (x, xd)) (xA := xA) (xn := xn) (xc := xc) (by first | exact heap_alloc_new w6 _ | exact HM6.out _ GEN1.out | exact HM6.out _ GNE0.out) HXV.out) HL2.out (bsize (by repeat' first | exact HB6.out | refine Below.drew ?_ | refine belowA ?_ _)) ?_; intro v7 w7 ho7 hg7; have HB7' : Hid (Below wc.heap.size wc w7) := Below.trans (by repeat' first | exact HB6.out | refine Below.drew ?_ | refine belowA ?_ _) (below_of_grown hg7 (bsize (by repeat' first | exact HB6.out | refine Below.drew ?_ | refine belowA ?_ _)) (fun r e => (HO6.out.lt r e).1)); have HO7 := Lib.hid ho7; have s0 := kept HB7'.out n0; have s1 := kept HB7'.out n1; clear ho7 hg7)
                      | (refine step_append_R rfl (.tmp 64) (.tmp 67) rfl (w := w) (base := wc.heap.size) (v := v7) (l := ([] ++ acc.take oc) ++ [(x, xd)]) (m := acc.drop oc) (A := (some<|⟨g,0,none⟩)) (mm := k - oc) 0 rfl rfl (HO7.out.keep (by repeat' first | exact Below.refl _ _ | refine Below.drew ?_ | refine belowA ?_ _)) (SRC2.out _ (by repeat' first | exact HB7'.out | refine Below.drew ?_ | refine belowA ?_ _)) HL3.out (bsize (by repeat' first | exact HB7'.out | refine Below.drew ?_ | refine belowA ?_ _)) ?_; intro v8 w8 ho8 hg8; have HB8 : Hid (Below wc.heap.size wc w8) := Below.trans (by repeat' first | exact HB7'.out | refine Below.drew ?_ | refine belowA ?_ _) (below_of_grown hg8 (bsize (by repeat' first | exact HB7'.out | refine Below.drew ?_ | refine belowA ?_ _)) (fun r e => (HO7.out.lt r e).1)); have HO8 := Lib.hid ho8; have s0 := kept HB8.out n0; have s1 := kept HB8.out n1; clear ho8 hg8)
                      | fail)
                  all_goals
                    go_wp2_with fail
                    go_roundg (n - (k + 1))
                    case measure => have := HG.out; omega
                    case rel =>
                      refine ⟨k + 1, _, by omega, rfl, by go_num, belowT HB.out (belowT HW5B.out (belowT HB57.out (by first | exact HB8.out | exact HB8.out.drew | exact below_drewN HB8.out _))), (HO8.out.keep (by first | exact Below.refl _ _ | exact (Below.refl _ _).drew | exact below_drewN (Below.refl _ _) _)).mono hs1', ?_, fun h => absurd h (by omega), HST3.out⟩
                      rw [List.length_append, List.length_append, List.nil_append, List.length_take, List.length_drop, HAL.out, List.length_singleton]
                      omega
                · have hsrc2 : ∀ W, Below wc.heap.size wc W → SrcN w W (some ⟨g, p * 2, none⟩) (k - p) (acc.drop p) := fun W hW => (hold'.keep hW).reads.2.drop hp HAL.out.symm (.inr rfl)
                  have hpo2 : ¬ p = oc := fun e => hpo e.symm
                  have HCC := Lib.hid hcc
                  have HMX := Lib.hid hmx
                  clear hcc hmx
                  have hgE0 := heap_alloc_new wc (.cells #[] 45)
                  have hgEN0 := two0 wc (.cells #[] 45) (.cells #[.slice xA xn xc, .int .i64 xd] 45)
                  have hgEN1 := two1 wc (.cells #[] 45) (.cells #[.slice xA xn xc, .int .i64 xd] 45)
                  have hgNE0 := two0 wc (.cells #[.slice xA xn xc, .int .i64 xd] 45) (.cells #[] 45)
                  have hgNE1 := two1 wc (.cells #[.slice xA xn xc, .int .i64 xd] 45) (.cells #[] 45)
                  have hL1 : (([] : List Nogood).length + p) * 32 ≤ 140737488355328 := by rw [List.length_nil]; omega
                  have hL2 : ((([] : List Nogood) ++ acc.take p).length + 1) * 32 ≤ 140737488355328 := by rw [List.nil_append, List.length_take, HAL.out]; omega
                  have hL3 : (((([] : List Nogood) ++ acc.take p) ++ [(x, xd)]).length + (k - p)) * 32 ≤ 140737488355328 := by rw [List.length_append, List.nil_append, List.length_take, HAL.out, List.length_singleton]; omega
                  have HST3 := Lib.hid hst3
                  have HOLD' := Lib.hid hold'
                  have HB7 := Lib.hid hB7
                  have HB57 := Lib.hid hB57
                  have HT := Lib.hid ht
                  have GE0 := Lib.hid hgE0
                  have GEN0 := Lib.hid hgEN0
                  have GEN1 := Lib.hid hgEN1
                  have GNE0 := Lib.hid hgNE0
                  have GNE1 := Lib.hid hgNE1
                  have HL1 := Lib.hid hL1
                  have HL2 := Lib.hid hL2
                  have HL3 := Lib.hid hL3
                  have SRC1 := Lib.hid hsrc1
                  have SRC2 := Lib.hid hsrc2
                  clear hst3 hold' hB7 hB57 ht hgE0 hgEN0 hgEN1 hgNE0 hgNE1 hL1 hL2 hL3 hsrc1 hsrc2
                  go_upto_region 10 with fail
                  go_region_held3 (fun w' => w'.cell? ⟨wo.heap.size, 0, none⟩ = some (.slice xA xn xc) ∧ w'.cell? ⟨wo.heap.size, 1, none⟩ = some (.int .i64 xd))
                    (refine ⟨?_, ?_⟩ <;> first | exact n0 | exact n1 | exact s0 | exact s1 | (refine kept ?_ n0; (repeat' first | exact Below.refl _ _ | refine Below.drew ?_ | refine belowA ?_ _); done) | (refine kept ?_ n1; (repeat' first | exact Below.refl _ _ | refine Below.drew ?_ | refine belowA ?_ _); done) | (refine kept ?_ s0; (repeat' first | exact Below.refl _ _ | refine Below.drew ?_ | refine belowA ?_ _); done) | (refine kept ?_ s1; (repeat' first | exact Below.refl _ _ | refine Below.drew ?_ | refine belowA ?_ _); done))
                    (first
                      | (refine step_append_R rfl (.tmp 57) (.tmp 60) rfl (w := w) (base := wc.heap.size) (v := .slice (some ⟨wc.heap.size, 0, none⟩) 0 0) (l := []) (m := acc.take p) (A := (some<|⟨g,0,none⟩)) (mm := p) oc rfl rfl (OwnR.empty (by first | exact GE0.out | exact GEN0.out) (Nat.le_refl _)) (SRC1.out _ (by repeat' first | exact Below.refl _ _ | refine Below.drew ?_ | refine belowA ?_ _)) HL1.out (bsize (by repeat' first | exact Below.refl _ _ | refine Below.drew ?_ | refine belowA ?_ _)) ?_; intro v6 w6 ho6 hg6; have HB6 : Hid (Below wc.heap.size wc w6) := Below.trans (by repeat' first | exact Below.refl _ _ | refine Below.drew ?_ | refine belowA ?_ _) (below_of_grown hg6 (bsize (by repeat' first | exact Below.refl _ _ | refine Below.drew ?_ | refine belowA ?_ _)) (fun r e => (by have e' : some wc.heap.size = some r := e; injection e' with e'; omega))); have HM6 := Lib.hid (grown_other hg6 (wc.heap.size + 1) (fun e => (by have e' : some (wc.heap.size + 1) = some wc.heap.size := e; injection e' with e'; omega))); have HO6 := Lib.hid ho6; have s0 := kept HB6.out n0; have s1 := kept HB6.out n1; clear ho6 hg6)
                      | (refine step_append_R rfl (.tmp 57) (.tmp 60) rfl (w := w) (base := wc.heap.size) (v := .slice (some ⟨wc.heap.size + 1, 0, none⟩) 0 0) (l := []) (m := acc.take p) (A := (some<|⟨g,0,none⟩)) (mm := p) oc rfl rfl (OwnR.empty (by exact GNE1.out) (Nat.le_succ _)) (SRC1.out _ (by repeat' first | exact Below.refl _ _ | refine Below.drew ?_ | refine belowA ?_ _)) HL1.out (bsize (by repeat' first | exact Below.refl _ _ | refine Below.drew ?_ | refine belowA ?_ _)) ?_; intro v6 w6 ho6 hg6; have HB6 : Hid (Below wc.heap.size wc w6) := Below.trans (by repeat' first | exact Below.refl _ _ | refine Below.drew ?_ | refine belowA ?_ _) (below_of_grown hg6 (bsize (by repeat' first | exact Below.refl _ _ | refine Below.drew ?_ | refine belowA ?_ _)) (fun r e => (by have e' : some (wc.heap.size + 1) = some r := e; injection e' with e'; omega))); have HM6 := Lib.hid (grown_other hg6 wc.heap.size (fun e => (by have e' : some wc.heap.size = some (wc.heap.size + 1) := e; injection e' with e'; omega))); have HO6 := Lib.hid ho6; have s0 := kept HB6.out n0; have s1 := kept HB6.out n1; clear ho6 hg6)
                      | (refine step_append_R rfl (.tmp 61) (.tmp 63) rfl (w := w) (base := wc.heap.size) (v := v6) (l := [] ++ acc.take p) (m := [(x, xd)]) (A := some ⟨w6.heap.size, 0, none⟩) (mm := 1) 1 rfl rfl (HO6.out.keep (by repeat' first | exact Below.refl _ _ | refine Below.drew ?_ | refine belowA ?_ _)) (SrcN.one (x := (x, xd)) (xA := xA) (xn := xn) (xc := xc) (by first | exact heap_alloc_new w6 _ | exact HM6.out _ GEN1.out | exact HM6.out _ GNE0.out) HXV.out) HL2.out (bsize (by repeat' first | exact HB6.out | refine Below.drew ?_ | refine belowA ?_ _)) ?_; intro v7 w7 ho7 hg7; have HB7' : Hid (Below wc.heap.size wc w7) := Below.trans (by repeat' first | exact HB6.out | refine Below.drew ?_ | refine belowA ?_ _) (below_of_grown hg7 (bsize (by repeat' first | exact HB6.out | refine Below.drew ?_ | refine belowA ?_ _)) (fun r e => (HO6.out.lt r e).1)); have HO7 := Lib.hid ho7; have s0 := kept HB7'.out n0; have s1 := kept HB7'.out n1; clear ho7 hg7)
                      | (refine step_append_R rfl (.tmp 61) (.tmp 63) rfl (w := w) (base := wc.heap.size) (v := v6) (l := [] ++ acc.take p) (m := [(x, xd)]) (A := some ⟨(wc.heap.size+1), 0, none⟩) (mm := 1) 1 rfl rfl (HO6.out.keep (by repeat' first | exact Below.refl _ _ | refine Below.drew ?_ | refine belowA ?_ _)) (SrcN.one (x := (x, xd)) (xA := xA) (xn := xn) (xc := xc) (by first | exact heap_alloc_new w6 _ | exact HM6.out _ GEN1.out | exact HM6.out _ GNE0.out) HXV.out) HL2.out (bsize (by repeat' first | exact HB6.out | refine Below.drew ?_ | refine belowA ?_ _)) ?_; intro v7 w7 ho7 hg7; have HB7' : Hid (Below wc.heap.size wc w7) := Below.trans (by repeat' first | exact HB6.out | refine Below.drew ?_ | refine belowA ?_ _) (below_of_grown hg7 (bsize (by repeat' first | exact HB6.out | refine Below.drew ?_ | refine belowA ?_ _)) (fun r e => (HO6.out.lt r e).1)); have HO7 := Lib.hid ho7; have s0 := kept HB7'.out n0; have s1 := kept HB7'.out n1; clear ho7 hg7)
                      | (refine step_append_R rfl (.tmp 61) (.tmp 63) rfl (w := w) (base := wc.heap.size) (v := v6) (l := [] ++ acc.take p) (m := [(x, xd)]) (A := some ⟨wc.heap.size, 0, none⟩) (mm := 1) 1 rfl rfl (HO6.out.keep (by repeat' first | exact Below.refl _ _ | refine Below.drew ?_ | refine belowA ?_ _)) (SrcN.one (x := (x, xd)) (xA := xA) (xn := xn) (xc := xc) (by first | exact heap_alloc_new w6 _ | exact HM6.out _ GEN1.out | exact HM6.out _ GNE0.out) HXV.out) HL2.out (bsize (by repeat' first | exact HB6.out | refine Below.drew ?_ | refine belowA ?_ _)) ?_; intro v7 w7 ho7 hg7; have HB7' : Hid (Below wc.heap.size wc w7) := Below.trans (by repeat' first | exact HB6.out | refine Below.drew ?_ | refine belowA ?_ _) (below_of_grown hg7 (bsize (by repeat' first | exact HB6.out | refine Below.drew ?_ | refine belowA ?_ _)) (fun r e => (HO6.out.lt r e).1)); have HO7 := Lib.hid ho7; have s0 := kept HB7'.out n0; have s1 := kept HB7'.out n1; clear ho7 hg7)
                      | (refine step_append_R rfl (.tmp 64) (.tmp 67) rfl (w := w) (base := wc.heap.size) (v := v7) (l := ([] ++ acc.take p) ++ [(x, xd)]) (m := acc.drop p) (A := (some<|⟨g,p*2,none⟩)) (mm := k - p) (oc-p) rfl rfl (HO7.out.keep (by repeat' first | exact Below.refl _ _ | refine Below.drew ?_ | refine belowA ?_ _)) (SRC2.out _ (by repeat' first | exact HB7'.out | refine Below.drew ?_ | refine belowA ?_ _)) HL3.out (bsize (by repeat' first | exact HB7'.out | refine Below.drew ?_ | refine belowA ?_ _)) ?_; intro v8 w8 ho8 hg8; have HB8 : Hid (Below wc.heap.size wc w8) := Below.trans (by repeat' first | exact HB7'.out | refine Below.drew ?_ | refine belowA ?_ _) (below_of_grown hg8 (bsize (by repeat' first | exact HB7'.out | refine Below.drew ?_ | refine belowA ?_ _)) (fun r e => (HO7.out.lt r e).1)); have HO8 := Lib.hid ho8; have s0 := kept HB8.out n0; have s1 := kept HB8.out n1; clear ho8 hg8)
                      | fail)
                  all_goals
                    go_wp2_with fail
                    go_roundg (n - (k + 1))
                    case measure => have := HG.out; omega
                    case rel =>
                      refine ⟨k + 1, _, by omega, rfl, by go_num, belowT HB.out (belowT HW5B.out (belowT HB57.out (by first | exact HB8.out | exact HB8.out.drew | exact below_drewN HB8.out _))), (HO8.out.keep (by first | exact Below.refl _ _ | exact (Below.refl _ _).drew | exact below_drewN (Below.refl _ _) _)).mono hs1', ?_, fun h => absurd h (by omega), HST3.out⟩
                      rw [List.length_append, List.length_append, List.nil_append, List.length_take, List.length_drop, HAL.out, List.length_singleton]
                      omega
            · have hp0 : 0 < p := by cases p with
                | zero => simp [ltAt] at ht
                | succ p => omega
              have z1 : IntKind.i64.wrap ((p : Int) - 1) = (p : Int) - 1 := by rw [IntKind.wrap_i64]; omega
              have e2 : (p : Int) - 1 = ((p - 1 : Nat) : Int) := by omega
              have E2 := Lib.hid e2
              have HB7 := Lib.hid hB7
              have HB57 := Lib.hid hB57
              have HT := Lib.hid ht
              clear e2 hB7 hB57 ht
              go_wp2_with fail
              go_roundg (p - 1)
              case measure => have := HG2.out; omega
              case rel => exact ⟨p - 1, by omega, rfl, by rw [← E2.out], HB57.out, HST2.out⟩
      · have hfin : D = acc := by rw [hF, List.drop_eq_nil_of_le (by have := HN.out; omega), rsortL]
        have b4 : Below W0.heap.size W0 wo := belowT HB1.out hB
        have t4 := b4.block (w.heap.size + 1) (by have := HSZ.out; omega)
        rw [HRB.out] at t4
        have m0 : wo.cell? ⟨w.heap.size + 1, 0, none⟩ = some (.int .i64 0) := by simp [World.cell?, t4]
        have m1 : wo.cell? ⟨w.heap.size + 1, 1, none⟩ = some (.slice none 0 0) := by simp [World.cell?, t4]
        have kf : ∀ j, wo.frozen? ⟨w.heap.size + 1, j, none⟩ = false := fun j => by simp [World.frozen?, t4]
        have hbw0 := belowT HBW.out b4
        have HFIN := Lib.hid hfin
        have HNZ := Lib.hid hnz
        have HB := Lib.hid hB
        have HOWN := Lib.hid hown
        have HF := Lib.hid hF
        have HBw := Lib.hid hBw
        have T4 := Lib.hid t4
        have HAL := Lib.hid hal
        have HG := Lib.hid hg
        have B4 := Lib.hid b4
        have HBW0 := Lib.hid hbw0
        clear hfin hnz hB hown hF hBw t4 hal hg b4 hbw0
        rw [HAL.out]
        go_wp2_with fail
        have t1 := set_block (i := 0) T4.out (.int .i64 bd) #[.int .i64 bd, .slice none 0 0] rfl
        have t2 := set_block (i := 1) t1 (.slice oA k oc) #[.int .i64 bd, .slice oA k oc] rfl
        have gg := World.grownBy.trans (set_grown (i := 0) T4.out (.int .i64 bd)) (set_grown (i := 1) t1 (.slice oA k oc))
        generalize (wo.setCell ⟨w.heap.size + 1, 0, none⟩ (.int .i64 bd)).setCell ⟨w.heap.size + 1, 1, none⟩ (.slice oA k oc) = wf at t2 gg ⊢
        have e0 : wf.cell? ⟨w.heap.size + 1, 0, none⟩ = some (.int .i64 bd) := by simp [World.cell?, t2]
        have e1 : wf.cell? ⟨w.heap.size + 1, 1, none⟩ = some (.slice oA k oc) := by simp [World.cell?, t2]
        have hbf : Below w.heap.size w wf := HBW0.out.trans (below_of_grown gg HBW0.out.size (fun g hg => by injection hg with hg; omega))
        refine bodyPost_ret (v := .agg #[.int .i64 bd, .slice oA k oc]) (by simp [results, Tryd.results24, go_sem, e0, e1]) rfl ⟨_, rfl, ?_, hbf⟩
        rw [HFIN.out]
        exact (HOWN.out.kept gg (fun r e => by injection e with e; have := HSZ.out; have := HB1.out.size; omega)).nogoods hbf (by have := HAL.out; omega)
  · have hso : sortC bd l = l := if_neg hz
    rw [hso]
    obtain ⟨z, hzz⟩ : ∃ z, z = checkF bd l := ⟨_, rfl⟩
    rw [← hzz] at hck hz
    have hzb : (z != 0) = true := by simpa using hz
    have HV := Lib.hid hv
    have HN := Lib.hid hn
    have HW0 := Lib.hid hW0
    have HBW := Lib.hid hBW
    have HRB := Lib.hid hrb
    have HV0 := Lib.hid hv0
    have HSZ := Lib.hid hsz
    have HCK := Lib.hid hck
    have HSO := Lib.hid hso
    have HZ := Lib.hid hz
    have HZZ := Lib.hid hzz
    clear hv hn hW0 hBW hrb hv0 hsz hck hso hz hzz
    go_enter Tryd.func24, Tryd.ntmps24
    go_upto_region 1 with fail
    rw [← HW0.out]
    go_upto_region 2 with (go_at_call 14; refine HCK.out.mono ?_; rintro e w1 ⟨rfl, hb1⟩; have q0 := kept hb1 p0; have q1 := kept hb1 p1; have HB1 := Lib.hid hb1; clear hb1)
    have t4 := HB1.out.block (w.heap.size + 1) (by have := HSZ.out; omega)
    rw [HRB.out] at t4
    have m0 : w1.cell? ⟨w.heap.size + 1, 0, none⟩ = some (.int .i64 0) := by simp [World.cell?, t4]
    have m1 : w1.cell? ⟨w.heap.size + 1, 1, none⟩ = some (.slice none 0 0) := by simp [World.cell?, t4]
    have kf : ∀ j, w1.frozen? ⟨w.heap.size + 1, j, none⟩ = false := fun j => by simp [World.frozen?, t4]
    have T4 := Lib.hid t4
    clear t4
    go_wp2_with fail
    have t1 := set_block (i := 0) T4.out (.int .i64 bd) #[.int .i64 bd, .slice none 0 0] rfl
    have t2 := set_block (i := 1) t1 (.slice A n c) #[.int .i64 bd, .slice A n c] rfl
    have gg := World.grownBy.trans (set_grown (i := 0) T4.out (.int .i64 bd)) (set_grown (i := 1) t1 (.slice A n c))
    generalize (w1.setCell ⟨w.heap.size + 1, 0, none⟩ (.int .i64 bd)).setCell ⟨w.heap.size + 1, 1, none⟩ (.slice A n c) = wf at t2 gg ⊢
    have e0 : wf.cell? ⟨w.heap.size + 1, 0, none⟩ = some (.int .i64 bd) := by simp [World.cell?, t2]
    have e1 : wf.cell? ⟨w.heap.size + 1, 1, none⟩ = some (.slice A n c) := by simp [World.cell?, t2]
    have hbw1 := belowT HBW.out HB1.out
    have hbf : Below w.heap.size w wf := hbw1.trans (below_of_grown gg hbw1.size (fun g hg => by injection hg with hg; omega))
    exact bodyPost_ret (v := .agg #[.int .i64 bd, .slice A n c]) (by simp [results, Tryd.results24, go_sem, e0, e1]) rfl ⟨_, rfl, HV.out.keep hbf, hbf⟩
end Go.Proofs.YticdfbhbbapbdaaDoor
