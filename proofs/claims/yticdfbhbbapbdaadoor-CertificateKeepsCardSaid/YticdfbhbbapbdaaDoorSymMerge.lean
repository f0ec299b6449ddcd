/- slices.symMergeCmpFunc over nogoods. -/
import Derived.Test.YticdfbhbbapbdaaDoorInsertion
import Derived.IntWalk
namespace Go.Proofs.YticdfbhbbapbdaaDoor
open Go.RowKit


set_option maxHeartbeats 8000000 in
set_option maxRecDepth 100000 in
theorem sym_left (o : Ord ltI) (g cap N a b : Nat) (f : Nat → Item) (w : World) (h : RowI w g cap N f) (hgd : GoodI w g N f) (hab : a + 1 < b) (hb : b ≤ N) (hN : N ≤ 100000) (hs : SortedOn ltI f (a + 1) b) :
    Calls Tryd.prog 76 #[.slice (some ⟨g, 0, none⟩) N cap, .int .i64 a, .int .i64 ((a : Int) + 1), .int .i64 b, cmpV] w fun e w' => e = .returned (.tuple #[]) ∧ Sorted w w' g cap N a b f := by
  have hd1 : ((a : Int) + 1 - a == 1) = true := by simp; omega
  have HR := Lib.hid h
  have HGD := Lib.hid hgd
  have HO := Lib.hid o
  have HS := Lib.hid hs
  clear h hgd o hs
  unfold cmpV
  go_enter Tryd.func76, Tryd.ntmps76
  go_wp2
  go_loopg [10, 11] (b - (a + 1)) (fun gh iv jv wr => ∃ (i j : Nat), a + 1 ≤ i ∧ i ≤ j ∧ j ≤ b ∧ gh = j - i ∧ iv = .int .i64 i ∧ jv = .int .i64 j ∧ RowI wr g cap N f ∧ w.grownBy wr (some g) ∧ (a + 1 < i → ltI (f (i - 1)) (f a) = true) ∧ (j < b → ltI (f j) (f a) = false))
  case atStart => exact ⟨a + 1, b, Nat.le_refl _, by omega, Nat.le_refl _, rfl, by go_num, rfl, HR.out, World.grownBy.refl _ _, fun h => by omega, fun h => by omega⟩
  case round =>
    obtain ⟨i, j, hi, hij, hj, hg, rfl, rfl, hr, hgr, hl, hrr⟩ := hrel
    have hgdr := HGD.out.keep HR.out hr hgr (Within.refl a b f) hb
    by_cases hlt : i < j
    · obtain ⟨h, hh⟩ : ∃ h, h = (i + j) / 2 := ⟨_, rfl⟩
      have hh2 : ((i : Int) + j) / 2 = (h : Int) := by omega
      have hh3 : i ≤ h ∧ h < j := by omega
      obtain ⟨hih, hhj⟩ := hh3
      have hhN : h < N := by omega
      have haN : a < N := by omega
      have HG := Lib.hid hg
      have HRR := Lib.hid hr
      have HGR := Lib.hid hgr
      have HL := Lib.hid hl
      have HRT := Lib.hid hrr
      have HGDR := Lib.hid hgdr
      have HH := Lib.hid hh
      have HH2 := Lib.hid hh2
      clear hg hr hgr hl hrr hgdr hh hh2
      go_upto_region 5 with fail
      rw [HH2.out]
      obtain ⟨c0, c1⟩ := HRR.out.cell (k := h) (by omega)
      obtain ⟨d0, d1⟩ := HRR.out.cell (k := a) (by omega)
      have hcm := HGDR.out.cmp (i := h) (j := a) (by omega) (by omega) wr.drew (Below.refl _ _).drew
      have hlt2 : ltI (f (h)) (f (a)) = decide (cmpN (f (h)).2 (f (a)).2 < 0) := rfl
      generalize cmpN (f (h)).2 (f (a)).2 = cc at hcm hlt2
      have HCM := Lib.hid hcm
      have HLT2 := Lib.hid hlt2
      clear hcm hlt2
      go_cut [50] (fun s wx => s = .bool (decide (cc < 0)) ∧ Below wr.heap.size wr wx)
      case first =>
        go_region_held3 (fun w' => w'.cell? ⟨g, (h) * 2, none⟩ = some (.slice (f (h)).1.1 (f (h)).1.2.1 (f (h)).1.2.2) ∧ w'.cell? ⟨g, (h) * 2 + 1, none⟩ = some (.int .i64 (f (h)).2.2) ∧ w'.cell? ⟨g, (a) * 2, none⟩ = some (.slice (f (a)).1.1 (f (a)).1.2.1 (f (a)).1.2.2) ∧ w'.cell? ⟨g, (a) * 2 + 1, none⟩ = some (.int .i64 (f (a)).2.2))
          (first | exact ⟨r0, r1, r2, r3⟩ | exact ⟨c0, c1, d0, d1⟩)
          (first
            | (go_at_call 45; refine HCM.out.mono ?_; rintro e w1 ⟨rfl, hb1⟩; have r0 := kept hb1 c0; have r1 := kept hb1 c1; have r2 := kept hb1 d0; have r3 := kept hb1 d1; have HB1 : Hid (Below wr.heap.size wr w1) := belowT ((Below.refl _ _).drew) hb1; clear hb1)
            | fail)
        all_goals (go_wp2_with fail; go_meet; exact ⟨rfl, HB1.out⟩)
      case rest =>
        obtain ⟨rfl, hB1⟩ := hcut
        have hr1 := HRR.out.keep hB1
        have hgr1 : w.grownBy wc (some g) := World.grownBy.trans HGR.out (grown_of_below hB1 _)
        by_cases hcc : cc < 0
        · have hl1 : ltI (f (h + 1 - 1)) (f a) = true := by rw [show h + 1 - 1 = h by omega, HLT2.out]; simpa using hcc
          have HR1 := Lib.hid hr1
          have HGR1 := Lib.hid hgr1
          have HL1 := Lib.hid hl1
          clear hr1 hgr1 hl1
          clear hB1
          go_wp2_with fail
          go_roundg (j - (h + 1))
          case measure => have := HG.out; omega
          case rel => exact ⟨h + 1, j, by omega, by omega, hj, rfl, by go_num, rfl, HR1.out, HGR1.out, fun _ => HL1.out, HRT.out⟩
        · have hl1 : ltI (f h) (f a) = false := by rw [HLT2.out]; simpa using hcc
          have HR1 := Lib.hid hr1
          have HGR1 := Lib.hid hgr1
          have HL1 := Lib.hid hl1
          clear hr1 hgr1 hl1
          clear hB1
          go_wp2_with fail
          go_roundg (h - i)
          case measure => have := HG.out; omega
          case rel => exact ⟨i, h, hi, hih, by omega, rfl, rfl, rfl, HR1.out, HGR1.out, HL.out, fun _ => HL1.out⟩
    · obtain rfl : i = j := by omega
      have hfin := ins_up HO.out HS.out hi hj hl hrr
      have HG := Lib.hid hg
      have HRR := Lib.hid hr
      have HGR := Lib.hid hgr
      have HL := Lib.hid hl
      have HRT := Lib.hid hrr
      have HGDR := Lib.hid hgdr
      have HFIN := Lib.hid hfin
      clear hg hr hgr hl hrr hgdr hfin
      have ei : (i : Int) - 1 = ((i - 1 : Nat) : Int) := by omega
      have EI := Lib.hid ei
      clear ei
      go_wp2_with fail
      go_loopg [13] (i - 1 - a) (fun gh kv wr => ∃ k : Nat, a ≤ k ∧ k ≤ i - 1 ∧ gh = i - 1 - k ∧ kv = .int .i64 k ∧ RowI wr g cap N (rot f a (a + 1) (k + 1)) ∧ PermF N f (rot f a (a + 1) (k + 1)) ∧ w.grownBy wr (some g))
      case atStart => exact ⟨a, Nat.le_refl _, by omega, rfl, rfl, by rw [rot_right]; exact HRR.out, by rw [rot_right]; exact PermF.refl _ _, HGR.out⟩
      case round =>
        obtain ⟨k, hk1, hk2, hgk, rfl, hr2, hp2, hgr2⟩ := hrel
        by_cases hlk : k < i - 1
        · have hlk' : (k : Int) < (i : Int) - 1 := by omega
          obtain ⟨c0, c1⟩ := hr2.cell (k := k) (by omega)
          obtain ⟨d0, d1⟩ := hr2.cell (k := k + 1) (by omega)
          have fz := hr2.free
          have hsw := row_swap hr2 (i := k) (j := k + 1) (by omega) (by omega)
          have hpp := hp2.trans (swp_perm (rot f a (a + 1) (k + 1)) (i := k) (j := k + 1) (N := N) (by omega) (by omega))
          rw [rot_up f a k hk1] at hsw hpp
          have e1 : ((k : Int) + 1).toNat = k + 1 := by omega
          have w1 : IntKind.i64.wrap ((k : Int) + 1) = (k : Int) + 1 := by rw [IntKind.wrap_i64]; omega
          have b1 : 0 ≤ (k : Int) + 1 := by omega
          have l1 : (k : Int) + 1 < N := by omega
          have l2 : k < N := by omega
          have HGK := Lib.hid hgk
          have HR2 := Lib.hid hr2
          have HP2 := Lib.hid hp2
          have HGR2 := Lib.hid hgr2
          have HSW := Lib.hid hsw
          have HPP := Lib.hid hpp
          clear hgk hr2 hp2 hgr2 hsw hpp
          go_upto_region 11 with fail
          go_region
          go_wp2
          go_roundg (i - 1 - (k + 1))
          case measure => have := HGK.out; omega
          case rel => exact ⟨k + 1, by omega, by omega, rfl, by go_num, HSW.out.1, HPP.out, grown_drew_r (World.grownBy.trans HGR2.out HSW.out.2)⟩
        · have hlk' : ¬ ((k : Int) < (i : Int) - 1) := by omega
          have hki : k + 1 = i := by omega
          rw [hki] at hr2 hp2
          have hwn := (rot_within f a (a + 1) i (by omega) hi).mono (Nat.le_refl _) hj
          have HGK := Lib.hid hgk
          have HR2 := Lib.hid hr2
          have HP2 := Lib.hid hp2
          have HGR2 := Lib.hid hgr2
          have HWN := Lib.hid hwn
          have HKI := Lib.hid hki
          clear hgk hr2 hp2 hgr2 hwn hki
          go_wp2_with fail
          (try simp only [Exit.inBlock, Exit.then])
          refine bodyPost_ret (results_none rfl _ _ _) rfl ?_
          exact ⟨rfl, _, HR2.out, HP2.out, HWN.out, HFIN.out, HGR2.out⟩

set_option maxHeartbeats 8000000 in
set_option maxRecDepth 100000 in
theorem sym_right (o : Ord ltI) (g cap N a m : Nat) (f : Nat → Item) (w : World) (h : RowI w g cap N f) (hgd : GoodI w g N f) (ham : a + 1 < m) (hb : m + 1 ≤ N) (hN : N ≤ 100000) (hs : SortedOn ltI f a m) :
    Calls Tryd.prog 76 #[.slice (some ⟨g, 0, none⟩) N cap, .int .i64 a, .int .i64 m, .int .i64 ((m : Int) + 1), cmpV] w fun e w' => e = .returned (.tuple #[]) ∧ Sorted w w' g cap N a (m + 1) f := by
  have hd1 : ((m : Int) - a == 1) = false := by simp; omega
  have hd2 : ((m : Int) + 1 - m == 1) = true := by simp; omega
  have HR := Lib.hid h
  have HGD := Lib.hid hgd
  have HO := Lib.hid o
  have HS := Lib.hid hs
  clear h hgd o hs
  unfold cmpV
  go_enter Tryd.func76, Tryd.ntmps76
  go_wp2
  go_loopg [14, 15] (m - a) (fun gh iv jv wr => ∃ (i j : Nat), a ≤ i ∧ i ≤ j ∧ j ≤ m ∧ gh = j - i ∧ iv = .int .i64 i ∧ jv = .int .i64 j ∧ RowI wr g cap N f ∧ w.grownBy wr (some g) ∧ (a < i → ltI (f m) (f (i - 1)) = false) ∧ (j < m → ltI (f m) (f j) = true))
  case atStart => exact ⟨a, m, Nat.le_refl _, by omega, Nat.le_refl _, rfl, rfl, rfl, HR.out, World.grownBy.refl _ _, fun h => by omega, fun h => by omega⟩
  case round =>
    obtain ⟨i, j, hi, hij, hj, hg, rfl, rfl, hr, hgr, hl, hrr⟩ := hrel
    have hgdr := HGD.out.keep HR.out hr hgr (Within.refl a m f) (by omega)
    by_cases hlt : i < j
    · obtain ⟨h, hh⟩ : ∃ h, h = (i + j) / 2 := ⟨_, rfl⟩
      have hh2 : ((i : Int) + j) / 2 = (h : Int) := by omega
      have hh3 : i ≤ h ∧ h < j := by omega
      obtain ⟨hih, hhj⟩ := hh3
      have hhN : h < N := by omega
      have hmN : m < N := by omega
      have HG := Lib.hid hg
      have HRR := Lib.hid hr
      have HGR := Lib.hid hgr
      have HL := Lib.hid hl
      have HRT := Lib.hid hrr
      have HGDR := Lib.hid hgdr
      have HH := Lib.hid hh
      have HH2 := Lib.hid hh2
      clear hg hr hgr hl hrr hgdr hh hh2
      go_upto_region 17 with fail
      rw [HH2.out]
      obtain ⟨c0, c1⟩ := HRR.out.cell (k := m) (by omega)
      obtain ⟨d0, d1⟩ := HRR.out.cell (k := h) (by omega)
      have hcm := HGDR.out.cmp (i := m) (j := h) (by omega) (by omega) wr.drew (Below.refl _ _).drew
      have hlt2 : ltI (f (m)) (f (h)) = decide (cmpN (f (m)).2 (f (h)).2 < 0) := rfl
      generalize cmpN (f (m)).2 (f (h)).2 = cc at hcm hlt2
      have HCM := Lib.hid hcm
      have HLT2 := Lib.hid hlt2
      clear hcm hlt2
      go_cut [103] (fun s wx => s = .bool (!decide (cc < 0)) ∧ Below wr.heap.size wr wx)
      case first =>
        go_region_held3 (fun w' => w'.cell? ⟨g, (m) * 2, none⟩ = some (.slice (f (m)).1.1 (f (m)).1.2.1 (f (m)).1.2.2) ∧ w'.cell? ⟨g, (m) * 2 + 1, none⟩ = some (.int .i64 (f (m)).2.2) ∧ w'.cell? ⟨g, (h) * 2, none⟩ = some (.slice (f (h)).1.1 (f (h)).1.2.1 (f (h)).1.2.2) ∧ w'.cell? ⟨g, (h) * 2 + 1, none⟩ = some (.int .i64 (f (h)).2.2))
          (first | exact ⟨r0, r1, r2, r3⟩ | exact ⟨c0, c1, d0, d1⟩)
          (first
            | (go_at_call 45; refine HCM.out.mono ?_; rintro e w1 ⟨rfl, hb1⟩; have r0 := kept hb1 c0; have r1 := kept hb1 c1; have r2 := kept hb1 d0; have r3 := kept hb1 d1; have HB1 : Hid (Below wr.heap.size wr w1) := belowT ((Below.refl _ _).drew) hb1; clear hb1)
            | fail)
        all_goals (go_wp2_with fail; go_meet; exact ⟨rfl, HB1.out⟩)
      case rest =>
        obtain ⟨t, ht⟩ : ∃ t, (!decide (cc < 0)) = t := ⟨_, rfl⟩
        rw [ht] at hcut
        obtain ⟨rfl, hB1⟩ := hcut
        have hr1 := HRR.out.keep hB1
        have hgr1 : w.grownBy wc (some g) := World.grownBy.trans HGR.out (grown_of_below hB1 _)
        cases t
        · have hcc : cc < 0 := by simpa using ht
          clear ht
          have hl1 : ltI (f m) (f h) = true := by rw [HLT2.out]; simpa using hcc
          clear hcc
          have HR1 := Lib.hid hr1
          have HGR1 := Lib.hid hgr1
          have HL1 := Lib.hid hl1
          clear hr1 hgr1 hl1
          clear hB1
          go_wp2_with fail
          go_roundg (h - i)
          case measure => have := HG.out; omega
          case rel => exact ⟨i, h, hi, hih, by omega, rfl, rfl, rfl, HR1.out, HGR1.out, HL.out, fun _ => HL1.out⟩
        · have hcc : ¬ cc < 0 := by simpa using ht
          clear ht
          have hl1 : ltI (f m) (f (h + 1 - 1)) = false := by rw [show h + 1 - 1 = h by omega, HLT2.out]; simpa using hcc
          clear hcc
          have HR1 := Lib.hid hr1
          have HGR1 := Lib.hid hgr1
          have HL1 := Lib.hid hl1
          clear hr1 hgr1 hl1
          clear hB1
          go_wp2_with fail
          go_roundg (j - (h + 1))
          case measure => have := HG.out; omega
          case rel => exact ⟨h + 1, j, by omega, by omega, hj, rfl, by go_num, rfl, HR1.out, HGR1.out, fun _ => HL1.out, HRT.out⟩
    · obtain rfl : i = j := by omega
      have hfin := ins_down HO.out HS.out hi hj hl hrr
      have HG := Lib.hid hg
      have HRR := Lib.hid hr
      have HGR := Lib.hid hgr
      have HL := Lib.hid hl
      have HRT := Lib.hid hrr
      have HGDR := Lib.hid hgdr
      have HFIN := Lib.hid hfin
      clear hg hr hgr hl hrr hgdr hfin
      go_wp2_with fail
      go_loopg [17] (m - i) (fun gh kv wr => ∃ k : Nat, i ≤ k ∧ k ≤ m ∧ gh = k - i ∧ kv = .int .i64 k ∧ RowI wr g cap N (rot f k m (m + 1)) ∧ PermF N f (rot f k m (m + 1)) ∧ w.grownBy wr (some g))
      case atStart => exact ⟨m, hj, Nat.le_refl _, rfl, rfl, by rw [rot_left]; exact HRR.out, by rw [rot_left]; exact PermF.refl _ _, HGR.out⟩
      case round =>
        obtain ⟨k, hk1, hk2, hgk, rfl, hr2, hp2, hgr2⟩ := hrel
        by_cases hlk : i < k
        · obtain ⟨c0, c1⟩ := hr2.cell (k := k) (by omega)
          obtain ⟨d0, d1⟩ := hr2.cell (k := k - 1) (by omega)
          have fz := hr2.free
          have hsw := row_swap hr2 (i := k) (j := k - 1) (by omega) (by omega)
          have hpp := hp2.trans (swp_perm (rot f k m (m + 1)) (i := k) (j := k - 1) (N := N) (by omega) (by omega))
          rw [rot_down f m k (by omega) hk2] at hsw hpp
          have e1 : ((k : Int) - 1).toNat = k - 1 := by omega
          have e2 : (k : Int) - 1 = ((k - 1 : Nat) : Int) := by omega
          have w1 : IntKind.i64.wrap ((k : Int) - 1) = (k : Int) - 1 := by rw [IntKind.wrap_i64]; omega
          have b1 : 0 ≤ (k : Int) - 1 := by omega
          have b2 : 1 ≤ (k : Int) := by omega
          have l1 : (k : Int) - 1 < N := by omega
          have l2 : k < N := by omega
          have HGK := Lib.hid hgk
          have HR2 := Lib.hid hr2
          have HP2 := Lib.hid hp2
          have HGR2 := Lib.hid hgr2
          have HSW := Lib.hid hsw
          have HPP := Lib.hid hpp
          have E2 := Lib.hid e2
          clear hgk hr2 hp2 hgr2 hsw hpp e2
          go_upto_region 23 with fail
          go_region
          go_wp2
          go_roundg (k - 1 - i)
          case measure => have := HGK.out; omega
          case rel => exact ⟨k - 1, by omega, by omega, rfl, by rw [← E2.out], HSW.out.1, HPP.out, grown_drew_r (World.grownBy.trans HGR2.out HSW.out.2)⟩
        · obtain rfl : k = i := by omega
          have hwn := (rot_within f k m (m + 1) hj (by omega)).mono hi (Nat.le_refl _)
          have HGK := Lib.hid hgk
          have HR2 := Lib.hid hr2
          have HP2 := Lib.hid hp2
          have HGR2 := Lib.hid hgr2
          have HWN := Lib.hid hwn
          clear hgk hr2 hp2 hgr2 hwn
          go_wp2_with fail
          (try simp only [Exit.inBlock, Exit.then])
          refine bodyPost_ret (results_none rfl _ _ _) rfl ?_
          exact ⟨rfl, _, HR2.out, HP2.out, HWN.out, HFIN.out, HGR2.out⟩
end Go.Proofs.YticdfbhbbapbdaaDoor
