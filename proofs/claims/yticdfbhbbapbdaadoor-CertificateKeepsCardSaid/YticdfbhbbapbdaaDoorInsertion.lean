/- slices.insertionSortCmpFunc over nogoods. -/
import Derived.Test.YticdfbhbbapbdaaDoorStableW
namespace Go.Proofs.YticdfbhbbapbdaaDoor
open Go.RowKit

def ltI (x y : Item) : Bool := decide (cmpN x.2 y.2 < 0)
abbrev cmpV : Value := .func (.func 45) #[] #[]
/-- the facts of all items can be read beside the row -/
def GoodI (w : World) (g N : Nat) (f : Nat → Item) : Prop := ∀ k, k < N → FactsAt (hush g w) (.slice (f k).1.1 (f k).1.2.1 (f k).1.2.2) (f k).2.1
theorem GoodI.keep {w w' : World} {g cap N a b : Nat} {f f' : Nat → Item} (h : GoodI w g N f) (hr : RowI w g cap N f) (hr' : RowI w' g cap N f') (hg : w.grownBy w' (some g)) (hw : Within a b f f') (hb : b ≤ N) : GoodI w' g N f' := by
  have hB := hr.grown hr' hg
  intro k hk
  by_cases hin : a ≤ k ∧ k < b
  · obtain ⟨k', h1, h2, e⟩ := hw.2 k hin.1 hin.2
    rw [e]
    exact (h k' (by omega)).keep hB
  · rw [hw.1 k hin]
    exact (h k hk).keep hB
theorem GoodI.cmp {w : World} {g N i j : Nat} {f : Nat → Item} (h : GoodI w g N f) (hi : i < N) (hj : j < N) (W : World) (hb : Below w.heap.size w W) :
    Calls Tryd.prog 45 #[.agg #[.slice (f i).1.1 (f i).1.2.1 (f i).1.2.2, .int .i64 (f i).2.2], .agg #[.slice (f j).1.1 (f j).1.2.1 (f j).1.2.2, .int .i64 (f j).2.2]] W fun r w' => r = .returned (.int .i64 (cmpN (f i).2 (f j).2)) ∧ Below W.heap.size W w' :=
  sortCmp_calls _ _ (f i).2.1 (f j).2.1 (f i).2.2 (f j).2.2 W ((h i hi).unhush.keep hb) ((h j hj).unhush.keep hb)

/-- what became of the row between two worlds -/
def Sorted (w w' : World) (g cap N a b : Nat) (f : Nat → Item) : Prop :=
  ∃ f', RowI w' g cap N f' ∧ PermF N f f' ∧ Within a b f f' ∧ SortedOn ltI f' a b ∧ w.grownBy w' (some g)

set_option maxHeartbeats 4000000 in
set_option maxRecDepth 100000 in
theorem insertion_calls (o : Ord ltI) (g cap N a b : Nat) (f : Nat → Item) (w : World) (h : RowI w g cap N f) (hgd : GoodI w g N f) (hab : a ≤ b) (hb : b ≤ N) (hN : N ≤ 100000) :
    Calls Tryd.prog 75 #[.slice (some ⟨g, 0, none⟩) N cap, .int .i64 a, .int .i64 b, cmpV] w fun e w' => e = .returned (.tuple #[]) ∧ Sorted w w' g cap N a b f := by
  have HR := Lib.hid h
  have HGD := Lib.hid hgd
  have HO := Lib.hid o
  clear h hgd o
  unfold cmpV
  go_enter Tryd.func75, Tryd.ntmps75
  go_wp2
  go_loopg [8] (b - (a + 1)) (fun gh iv wr => ∃ (i : Nat) (f' : Nat → Item), a < i ∧ (i ≤ b ∨ i = a + 1) ∧ gh = b - i ∧ iv = .int .i64 i ∧ RowI wr g cap N f' ∧ PermF N f f' ∧ Within a b f f' ∧ w.grownBy wr (some g) ∧ SortedOn ltI f' a i)
  case atStart => exact ⟨a + 1, f, by omega, by omega, by omega, by go_num, HR.out, PermF.refl _ _, Within.refl _ _ _, World.grownBy.refl _ _, SortedOn.small (by omega)⟩
  case round =>
    obtain ⟨i, f', hai, hib, hg, rfl, hr, hp, hwi, hgr, hso⟩ := hrel
    by_cases hlt : i < b
    · have hstart := almost_start hso
      have HG := Lib.hid hg
      have HRR := Lib.hid hr
      have HP := Lib.hid hp
      have HWI := Lib.hid hwi
      have HGR := Lib.hid hgr
      have HSO := Lib.hid hso
      have HST := Lib.hid hstart
      clear hg hr hp hwi hgr hso hstart
      go_wp2
      go_loopg [9] (i - a) (fun gh jv wr => ∃ (j : Nat) (f' : Nat → Item), a ≤ j ∧ j ≤ i ∧ gh = j - a ∧ jv = .int .i64 j ∧ RowI wr g cap N f' ∧ PermF N f f' ∧ Within a b f f' ∧ w.grownBy wr (some g) ∧ Almost ltI f' a (i + 1) j)
      case atStart => exact ⟨i, f', by omega, Nat.le_refl _, rfl, rfl, HRR.out, HP.out, HWI.out, HGR.out, HST.out⟩
      case round =>
        obtain ⟨j, f2, haj, hji, hgj, rfl, hr2, hp2, hwi2, hgr2, hal⟩ := hrel
        clear HRR HP HWI HGR HSO HST
        have hgd2 := HGD.out.keep HR.out hr2 hgr2 hwi2 hb
        by_cases haj' : a < j
        · obtain ⟨c0, c1⟩ := hr2.cell (k := j) (by omega)
          obtain ⟨d0, d1⟩ := hr2.cell (k := j - 1) (by omega)
          have fz := hr2.free
          have hcm := hgd2.cmp (i := j) (j := j - 1) (by omega) (by omega) wr.drew (Below.refl _ _).drew
          have e1 : ((j : Int) - 1).toNat = j - 1 := by omega
          have e2 : (j : Int) - 1 = ((j - 1 : Nat) : Int) := by omega
          have w1 : IntKind.i64.wrap ((j : Int) - 1) = (j : Int) - 1 := by rw [IntKind.wrap_i64]; omega
          have b1 : 0 ≤ (j : Int) - 1 := by omega
          have b2 : 1 ≤ (j : Int) := by omega
          have l1 : (j : Int) - 1 < N := by omega
          have hjN : j < N := by omega
          have dd : decide ((a : Int) < j) = true := by simp; omega
          have dd2 : decide (a < j) = true := by simpa using haj'
          have hlt2 : ltI (f2 j) (f2 (j - 1)) = decide (cmpN (f2 j).2 (f2 (j - 1)).2 < 0) := rfl
          generalize cmpN (f2 j).2 (f2 (j - 1)).2 = cc at hcm hlt2
          have HGJ := Lib.hid hgj
          have HR2 := Lib.hid hr2
          have HP2 := Lib.hid hp2
          have HWI2 := Lib.hid hwi2
          have HGR2 := Lib.hid hgr2
          have HAL := Lib.hid hal
          have HGD2 := Lib.hid hgd2
          have HCM := Lib.hid hcm
          have HLT2 := Lib.hid hlt2
          have E2 := Lib.hid e2
          clear hgj hr2 hp2 hwi2 hgr2 hal hgd2 hcm hlt2 e2
          go_upto_region 4 with fail
          go_cut [34] (fun s wx => s = .bool (decide (cc < 0)) ∧ Below wr.heap.size wr wx)
          case first =>
            go_region_held3 (fun w' => w'.cell? ⟨g, j * 2, none⟩ = some (.slice (f2 j).1.1 (f2 j).1.2.1 (f2 j).1.2.2) ∧ w'.cell? ⟨g, j * 2 + 1, none⟩ = some (.int .i64 (f2 j).2.2) ∧ w'.cell? ⟨g, (j - 1) * 2, none⟩ = some (.slice (f2 (j - 1)).1.1 (f2 (j - 1)).1.2.1 (f2 (j - 1)).1.2.2) ∧ w'.cell? ⟨g, (j - 1) * 2 + 1, none⟩ = some (.int .i64 (f2 (j - 1)).2.2))
              (first | exact ⟨r0, r1, r2, r3⟩ | exact ⟨c0, c1, d0, d1⟩)
              (first
                | (go_at_call 45; refine HCM.out.mono ?_; rintro e w1 ⟨rfl, hb1⟩; have r0 := kept hb1 c0; have r1 := kept hb1 c1; have r2 := kept hb1 d0; have r3 := kept hb1 d1; have HB1 : Hid (Below wr.heap.size wr w1) := belowT ((Below.refl _ _).drew) hb1; clear hb1)
                | fail)
            all_goals (go_wp2_with fail; go_meet; exact ⟨rfl, HB1.out⟩)
          case rest =>
            obtain ⟨rfl, hB1⟩ := hcut
            have hr3 := HR2.out.keep hB1
            have hgr3 : w.grownBy wc (some g) := World.grownBy.trans HGR2.out (grown_of_below hB1 _)
            by_cases hcc : cc < 0
            · have hl : ltI (f2 j) (f2 (j - 1)) = true := by rw [HLT2.out]; simpa using hcc
              have hal' := almost_step HAL.out haj' (by omega) HO.out hl
              obtain ⟨c0, c1⟩ := hr3.cell (k := j) (by omega)
              obtain ⟨d0, d1⟩ := hr3.cell (k := j - 1) (by omega)
              have fz := hr3.free
              have hsw := row_swap hr3 (i := j) (j := j - 1) (by omega) (by omega)
              have hpp := PermF.trans HP2.out (swp_perm f2 (i := j) (j := j - 1) (N := N) (by omega) (by omega))
              have hww := Within.trans HWI2.out (swp_within f2 a b j (j - 1) (by omega) (by omega))
              have HR3 := Lib.hid hr3
              have HGR3 := Lib.hid hgr3
              have HL := Lib.hid hl
              have HAL' := Lib.hid hal'
              have HSW := Lib.hid hsw
              have HPP := Lib.hid hpp
              have HWW := Lib.hid hww
              clear hr3 hgr3 hl hal' hsw hpp hww
              clear hB1
              go_upto_region 6 with fail
              go_region
              go_wp2
              go_roundg (j - 1 - a)
              case measure => have := HGJ.out; omega
              case rel => exact ⟨j - 1, _, by omega, by omega, by omega, by rw [← E2.out], HSW.out.1, HPP.out, HWW.out, grown_drew_r (World.grownBy.trans HGR3.out HSW.out.2), HAL'.out⟩
            · have hl : ltI (f2 j) (f2 (j - 1)) = false := by rw [HLT2.out]; simpa using hcc
              have hdone := almost_done HAL.out haj HO.out (fun _ => hl)
              have HR3 := Lib.hid hr3
              have HGR3 := Lib.hid hgr3
              have HL := Lib.hid hl
              have HDONE := Lib.hid hdone
              clear hr3 hgr3 hl hdone
              clear hB1
              go_wp2_with fail
              go_roundg (b - (i + 1))
              case measure => have := HG.out; omega
              case rel => exact ⟨i + 1, f2, by omega, by omega, rfl, by go_num, HR3.out, HP2.out, HWI2.out, HGR3.out, HDONE.out⟩
        · have hdone := almost_done hal haj HO.out (fun h => absurd h haj')
          have dd : decide ((a : Int) < j) = false := by simp; omega
          have dd2 : decide (a < j) = false := by simpa using haj'
          have HGJ := Lib.hid hgj
          have HR2 := Lib.hid hr2
          have HP2 := Lib.hid hp2
          have HWI2 := Lib.hid hwi2
          have HGR2 := Lib.hid hgr2
          have HAL := Lib.hid hal
          have HGD2 := Lib.hid hgd2
          have HDONE := Lib.hid hdone
          clear hgj hr2 hp2 hwi2 hgr2 hal hgd2 hdone
          go_upto_region 4 with fail
          go_cut [34] (fun s wx => s = .bool false ∧ ∃ q, wx = wr.drewN q)
          case first =>
            refine wp_region_quiet_lit (by kernel_rfl) (by kernel_rfl) ?_
            repeat (any_goals (first | go_big_quiet_step (fail) | quiet_step (fail) | (refine wpQuiet_step (fun K hK => ?_); go_simp; split <;> (refine hK _ ?_; clear hK K))))
            all_goals (refine wpQuiet_nil ?_; intro _ hw'; obtain ⟨nq, hw''⟩ := hw'; subst hw'')
            all_goals (go_wp2_with fail; go_meet; exact ⟨rfl, _, rfl⟩)
          case rest =>
            obtain ⟨rfl, q, rfl⟩ := hcut
            go_wp2_with fail
            go_roundg (b - (i + 1))
            case measure => have := HG.out; omega
            case rel => exact ⟨i + 1, f2, by omega, by omega, rfl, by go_num, HR2.out, HP2.out, HWI2.out, World.grownBy.trans HGR2.out (grown_of_below (below_drewN (Below.refl _ _) _) _), HDONE.out⟩
    · have hsb : SortedOn ltI f' a b := hso.sub (Nat.le_refl _) (by omega)
      have HG := Lib.hid hg
      have HRR := Lib.hid hr
      have HP := Lib.hid hp
      have HWI := Lib.hid hwi
      have HGR := Lib.hid hgr
      have HSO := Lib.hid hso
      have HSB := Lib.hid hsb
      clear hg hr hp hwi hgr hso hsb
      go_wp2
      go_end0
      exact ⟨rfl, f', HRR.out, HP.out, HWI.out, HSB.out, HGR.out⟩
end Go.Proofs.YticdfbhbbapbdaaDoor
