/- A row of nogoods of the call's own, and what the stable sort does to it: swapRange, rotate, insertionSort, symMerge, stable. -/
import Derived.Test.YticdfbhbbapbdaaDoorStable
import Derived.Test.YticdfbhbbapbdaaDoorCmpN
import Derived.Test.YticdfbhbbapbdaaDoorHush0
import Derived.RegionTactic
import Derived.BigRegion
import Derived.Deep.RegionHeld3
namespace Go.Proofs.YticdfbhbbapbdaaDoor
open Go.RowKit

abbrev Item := (Option Addr × Nat × Nat) × Nogood
abbrev valI (x : Item) : Value := .slice x.1.1 x.1.2.1 x.1.2.2
/-- block g holds the items f 0, .., f (N - 1) -/
def RowI (w : World) (g cap N : Nat) (f : Nat → Item) : Prop :=
  ∃ cur : Array Value, w.heap[g]? = some (.cells cur 45 (0, 0)) ∧ cur.size = cap * 2 ∧ N ≤ cap ∧ ∀ k, k < N → cur[k * 2]? = some (.slice (f k).1.1 (f k).1.2.1 (f k).1.2.2) ∧ cur[k * 2 + 1]? = some (.int .i64 (f k).2.2)
theorem RowI.cell {w : World} {g cap N : Nat} {f : Nat → Item} (h : RowI w g cap N f) {k : Nat} (hk : k < N) : w.cell? ⟨g, k * 2, none⟩ = some (.slice (f k).1.1 (f k).1.2.1 (f k).1.2.2) ∧ w.cell? ⟨g, k * 2 + 1, none⟩ = some (.int .i64 (f k).2.2) := by
  obtain ⟨cur, h1, _, _, h2⟩ := h
  obtain ⟨a, b⟩ := h2 k hk
  exact ⟨by simpa [World.cell?, h1] using a, by simpa [World.cell?, h1] using b⟩
theorem RowI.free {w : World} {g cap N : Nat} {f : Nat → Item} (h : RowI w g cap N f) (j : Nat) : w.frozen? ⟨g, j, none⟩ = false := by
  obtain ⟨cur, h1, _⟩ := h
  simp [World.frozen?, h1]
theorem RowI.lt {w : World} {g cap N : Nat} {f : Nat → Item} (h : RowI w g cap N f) : g < w.heap.size := by
  obtain ⟨cur, h1, _⟩ := h
  exact (Array.getElem?_eq_some_iff.1 h1).1
theorem RowI.keep {w w' : World} {g cap N : Nat} {f : Nat → Item} (h : RowI w g cap N f) (hb : Below w.heap.size w w') : RowI w' g cap N f := by
  have hl := h.lt
  obtain ⟨cur, h1, h2⟩ := h
  exact ⟨cur, (hb.block g hl).trans h1, h2⟩
theorem RowI.grown {w w' : World} {g cap N : Nat} {f f' : Nat → Item} (h : RowI w g cap N f) (h' : RowI w' g cap N f') (hg : w.grownBy w' (some g)) : Below (hush g w).heap.size (hush g w) (hush g w') := by
  obtain ⟨cur, h1, _⟩ := h
  obtain ⟨cur', h1', _⟩ := h'
  exact hush_below hg h1 h1'
theorem grown_drew_r {w x : World} {r : Option Nat} (h : w.grownBy x r) : w.grownBy x.drew r := ⟨h.os, h.tape, h.output, h.size, h.block⟩
/-- the world behind an exchange of two items -/
theorem row_swap {w : World} {g cap N i j : Nat} {f : Nat → Item} (h : RowI w g cap N f) (hi : i < N) (hj : j < N) :
    RowI ((((w.setCell ⟨g, i * 2, none⟩ (.slice (f j).1.1 (f j).1.2.1 (f j).1.2.2)).setCell ⟨g, i * 2 + 1, none⟩ (.int .i64 (f j).2.2)).setCell ⟨g, j * 2, none⟩ (.slice (f i).1.1 (f i).1.2.1 (f i).1.2.2)).setCell ⟨g, j * 2 + 1, none⟩ (.int .i64 (f i).2.2)) g cap N (swp f i j) ∧
    w.grownBy ((((w.setCell ⟨g, i * 2, none⟩ (.slice (f j).1.1 (f j).1.2.1 (f j).1.2.2)).setCell ⟨g, i * 2 + 1, none⟩ (.int .i64 (f j).2.2)).setCell ⟨g, j * 2, none⟩ (.slice (f i).1.1 (f i).1.2.1 (f i).1.2.2)).setCell ⟨g, j * 2 + 1, none⟩ (.int .i64 (f i).2.2)) (some g) := by
  obtain ⟨cur, h1, h2, h3, h4⟩ := h
  have s1 := set_block h1 (.slice (f j).1.1 (f j).1.2.1 (f j).1.2.2) _ rfl (i := i * 2)
  have s2 := set_block s1 (.int .i64 (f j).2.2) _ rfl (i := i * 2 + 1)
  have s3 := set_block s2 (.slice (f i).1.1 (f i).1.2.1 (f i).1.2.2) _ rfl (i := j * 2)
  have s4 := set_block s3 (.int .i64 (f i).2.2) _ rfl (i := j * 2 + 1)
  refine ⟨⟨_, s4, by simpa using h2, h3, fun k hk => ?_⟩, ?_⟩
  · obtain ⟨a, b⟩ := h4 k hk
    unfold swp
    simp only [Array.getElem?_setIfInBounds, Array.size_setIfInBounds]
    constructor
    · by_cases hki : k = i
      · subst hki
        by_cases hkj : k = j
        · subst hkj
          rw [if_neg (by omega), if_pos rfl, if_pos (by omega), if_pos rfl]
        · rw [if_neg (by omega), if_neg (by omega), if_neg (by omega), if_pos rfl, if_pos (by omega), if_pos rfl]
      · by_cases hkj : k = j
        · subst hkj
          rw [if_neg (by omega), if_pos rfl, if_pos (by omega), if_neg hki, if_pos rfl]
        · rw [if_neg (by omega), if_neg (by omega), if_neg (by omega), if_neg (by omega), if_neg hki, if_neg hkj]
          exact a
    · by_cases hki : k = i
      · subst hki
        by_cases hkj : k = j
        · subst hkj
          rw [if_pos rfl, if_pos (by omega), if_pos rfl]
        · rw [if_neg (by omega), if_neg (by omega), if_pos rfl, if_pos (by omega), if_pos rfl]
      · by_cases hkj : k = j
        · subst hkj
          rw [if_pos rfl, if_pos (by omega), if_neg hki, if_pos rfl]
        · rw [if_neg (by omega), if_neg (by omega), if_neg (by omega), if_neg (by omega), if_neg hki, if_neg hkj]
          exact b
  · exact (set_grown h1 _).trans ((set_grown s1 _).trans ((set_grown s2 _).trans (set_grown s3 _)))

set_option maxHeartbeats 2000000 in
set_option maxRecDepth 100000 in
theorem swapRange_calls (g cap N a b n : Nat) (cv : Value) (f : Nat → Item) (w : World) (h : RowI w g cap N f) (hab : a + n ≤ b) (hb : b + n ≤ N) (hN : N ≤ 100000) :
    Calls Tryd.prog 97 #[.slice (some ⟨g, 0, none⟩) N cap, .int .i64 a, .int .i64 b, .int .i64 n, cv] w fun e w' => e = .returned (.tuple #[]) ∧ RowI w' g cap N (swr f a b n) ∧ PermF N f (swr f a b n) ∧ w.grownBy w' (some g) := by
  have HR := Lib.hid h
  clear h
  go_enter Tryd.func97, Tryd.ntmps97
  go_wp2
  go_loopg [10] n (fun gh i wr => ∃ k : Nat, k ≤ n ∧ gh = n - k ∧ i = .int .i64 k ∧ RowI wr g cap N (swr f a b k) ∧ PermF N f (swr f a b k) ∧ w.grownBy wr (some g))
  case atStart => exact ⟨0, Nat.zero_le _, by omega, rfl, by rw [swr_zero]; exact HR.out, by rw [swr_zero]; exact PermF.refl _ _, World.grownBy.refl _ _⟩
  case round =>
    obtain ⟨k, hk, hg, rfl, hr, hp, hgr⟩ := hrel
    by_cases hlt : k < n
    · obtain ⟨c0, c1⟩ := hr.cell (k := a + k) (by omega)
      obtain ⟨d0, d1⟩ := hr.cell (k := b + k) (by omega)
      have fz := hr.free
      have hsw := row_swap hr (i := a + k) (j := b + k) (by omega) (by omega)
      have hpp := hp.trans (swp_perm (swr f a b k) (i := a + k) (j := b + k) (N := N) (by omega) (by omega))
      rw [swr_succ f a b k (by omega)] at hsw hpp
      have e1 : ((a : Int) + k).toNat = a + k := by omega
      have e2 : ((b : Int) + k).toNat = b + k := by omega
      have l1 : (a : Int) + k < N := by omega
      have l2 : (b : Int) + k < N := by omega
      have b1 : 0 ≤ (a : Int) + k := by omega
      have b2 : 0 ≤ (b : Int) + k := by omega
      have w1 : IntKind.i64.wrap ((a : Int) + k) = (a : Int) + k := by rw [IntKind.wrap_i64]; omega
      have w2 : IntKind.i64.wrap ((b : Int) + k) = (b : Int) + k := by rw [IntKind.wrap_i64]; omega
      have HG := Lib.hid hg
      have HRR := Lib.hid hr
      have HP := Lib.hid hp
      have HGR := Lib.hid hgr
      have HSW := Lib.hid hsw
      have HPP := Lib.hid hpp
      clear hg hr hp hgr hsw hpp
      go_upto_region 3 with fail
      go_region
      go_wp2
      go_roundg (n - (k + 1))
      case measure => have := HG.out; omega
      case rel => exact ⟨k + 1, by omega, rfl, by go_num, HSW.out.1, HPP.out, grown_drew_r (World.grownBy.trans HGR.out HSW.out.2)⟩
    · have hke : k = n := by omega
      subst hke
      have HG := Lib.hid hg
      have HRR := Lib.hid hr
      have HP := Lib.hid hp
      have HGR := Lib.hid hgr
      clear hg hr hp hgr
      go_wp2
      go_end0
      exact ⟨rfl, HRR.out, HP.out, HGR.out⟩

set_option maxHeartbeats 2000000 in
set_option maxRecDepth 100000 in
theorem rotate_calls (g cap N a m b : Nat) (cv : Value) (f : Nat → Item) (w : World) (h : RowI w g cap N f) (ham : a < m) (hmb : m < b) (hb : b ≤ N) (hN : N ≤ 100000) :
    Calls Tryd.prog 86 #[.slice (some ⟨g, 0, none⟩) N cap, .int .i64 a, .int .i64 m, .int .i64 b, cv] w fun e w' => e = .returned (.tuple #[]) ∧ RowI w' g cap N (rot f a m b) ∧ PermF N f (rot f a m b) ∧ w.grownBy w' (some g) := by
  have hia : (m : Int) - a = ((m - a : Nat) : Int) := by omega
  have hjb : (b : Int) - m = ((b - m : Nat) : Int) := by omega
  have HR := Lib.hid h
  have HIA := Lib.hid hia
  have HJB := Lib.hid hjb
  clear h hia hjb
  go_enter Tryd.func86, Tryd.ntmps86
  go_wp2
  go_loopg [10, 11] (b - a) (fun gh iv jv wr => ∃ (i j : Nat) (f' : Nat → Item), 0 < i ∧ 0 < j ∧ a + i ≤ m ∧ m + j ≤ b ∧ gh = i + j ∧ iv = .int .i64 i ∧ jv = .int .i64 j ∧ RowI wr g cap N f' ∧ PermF N f f' ∧ w.grownBy wr (some g) ∧ rot f a m b = rot f' (m - i) m (m + j) ∧ a ≤ m - i)
  case atStart => exact ⟨m - a, b - m, f, by omega, by omega, by omega, by omega, by omega, by rw [HIA.out], by rw [HJB.out], HR.out, PermF.refl _ _, World.grownBy.refl _ _, by rw [show m - (m - a) = a by omega, show m + (b - m) = b by omega], by omega⟩
  case round =>
    obtain ⟨i, j, f', hi, hj, him, hjm, hg, rfl, rfl, hr, hp, hgr, hrot, hami⟩ := hrel
    have e1 : (m : Int) - i = ((m - i : Nat) : Int) := by omega
    rcases Nat.lt_trichotomy i j with hij | hij | hij
    · have hne : ((i : Int) != (j : Int)) = true := by simp; omega
      have e2 : (m : Int) + j - i = ((m + j - i : Nat) : Int) := by omega
      have e3 : (j : Int) - i = ((j - i : Nat) : Int) := by omega
      have hs := swapRange_calls g cap N (m - i) (m + j - i) i cv f' wr hr (by omega) (by omega) hN
      have hl := rot_lt f' (m - i) m (m + j) (by omega) (by omega) (by omega)
      rw [show m - (m - i) = i by omega] at hl
      rw [hl] at hrot
      have HG := Lib.hid hg
      have HRR := Lib.hid hr
      have HP := Lib.hid hp
      have HGR := Lib.hid hgr
      have HROT := Lib.hid hrot
      have E1 := Lib.hid e1
      have E2 := Lib.hid e2
      have E3 := Lib.hid e3
      have HS := Lib.hid hs
      have HL := Lib.hid hl
      clear hg hr hp hgr hrot e1 e2 e3 hs hl
      go_wp2_with (go_at_call 97; rw [E1.out, E2.out]; refine HS.out.mono ?_; rintro e w1 ⟨rfl, hr1, hp1, hg1⟩)
      go_roundg j
      case measure => have := HG.out; omega
      case rel => exact ⟨i, j - i, _, by omega, by omega, by omega, by omega, by omega, rfl, by rw [← E3.out], hr1, PermF.trans HP.out hp1, World.grownBy.trans HGR.out hg1, by rw [HROT.out, show m + (j - i) = m + j - i by omega], by omega⟩
    · subst hij
      have hne : ((i : Int) != (i : Int)) = false := by simp
      have hs := swapRange_calls g cap N (m - i) m i cv f' wr hr (by omega) (by omega) hN
      have hl := rot_eq f' (m - i) m (m + i) (by omega) (by omega) (by omega)
      rw [show m - (m - i) = i by omega] at hl
      rw [hl] at hrot
      have HG := Lib.hid hg
      have HRR := Lib.hid hr
      have HP := Lib.hid hp
      have HGR := Lib.hid hgr
      have HROT := Lib.hid hrot
      have E1 := Lib.hid e1
      have HS := Lib.hid hs
      have HL := Lib.hid hl
      clear hg hr hp hgr hrot e1 hs hl
      go_wp2_with (go_at_call 97; rw [E1.out]; refine HS.out.mono ?_; rintro e w1 ⟨rfl, hr1, hp1, hg1⟩)
      go_end0
      rw [HROT.out]
      exact ⟨rfl, hr1, PermF.trans HP.out hp1, World.grownBy.trans HGR.out hg1⟩
    · have hne : ((i : Int) != (j : Int)) = true := by simp; omega
      have e3 : (i : Int) - j = ((i - j : Nat) : Int) := by omega
      have hs := swapRange_calls g cap N (m - i) m j cv f' wr hr (by omega) (by omega) hN
      have hl := rot_gt f' (m - i) m (m + j) (by omega) (by omega) (by omega)
      rw [show m + j - m = j by omega] at hl
      rw [hl] at hrot
      have HG := Lib.hid hg
      have HRR := Lib.hid hr
      have HP := Lib.hid hp
      have HGR := Lib.hid hgr
      have HROT := Lib.hid hrot
      have E1 := Lib.hid e1
      have E3 := Lib.hid e3
      have HS := Lib.hid hs
      have HL := Lib.hid hl
      clear hg hr hp hgr hrot e1 e3 hs hl
      go_wp2_with (go_at_call 97; rw [E1.out]; refine HS.out.mono ?_; rintro e w1 ⟨rfl, hr1, hp1, hg1⟩)
      go_roundg i
      case measure => have := HG.out; omega
      case rel => exact ⟨i - j, j, _, by omega, by omega, by omega, by omega, by omega, by rw [← E3.out], rfl, hr1, PermF.trans HP.out hp1, World.grownBy.trans HGR.out hg1, by rw [HROT.out, show m - (i - j) = m - i + j by omega], by omega⟩
end Go.Proofs.YticdfbhbbapbdaaDoor
