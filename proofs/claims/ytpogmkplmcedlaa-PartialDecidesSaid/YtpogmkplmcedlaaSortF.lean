/- slices.SortFunc over facts with partial.Make's closure: by variable, then by value. -/
import Derived.Test.YtpogmkplmcedlaaOwnF
import Derived.Test.YtpogmkplmcedlaaShelf
import Derived.Deep.RegionHeld3
import Derived.Shelf.SlSortCmp.NoneTotal
namespace Go.Proofs.Ytpogmkplmcedlaa
open Go.RowKit Go.Sort Go.Shelf Go.Lib

/-- draws and new blocks alone -/
def Grw (w w' : World) : Prop := ∃ q os, w' = grow (w.drewN q) os
theorem Grw.refl (w : World) : Grw w w := ⟨0, #[], by simp; rfl⟩
theorem Grw.alloc {a w : World} (h : Grw a w) (o : Obj) : Grw a (w.alloc o) := by
  obtain ⟨q, os, rfl⟩ := h
  exact ⟨q, os ++ #[o], by rw [alloc_eq_grow, grow_grow]⟩
theorem Grw.drew {a w : World} (h : Grw a w) : Grw a w.drew := by
  obtain ⟨q, os, rfl⟩ := h
  exact ⟨q + 1, os, rfl⟩
theorem Grw.drewN {a w : World} (h : Grw a w) (n : Nat) : Grw a (w.drewN n) := by
  obtain ⟨q, os, rfl⟩ := h
  exact ⟨q + n, os, by rw [← World.drewN_drewN]; rfl⟩
theorem Grw.below {w w' : World} (h : Grw w w') : Below w.heap.size w w' := by
  obtain ⟨q, os, rfl⟩ := h
  exact ⟨rfl, rfl, rfl, by simp [grow], fun i hi => by
    show (w.heap ++ os)[i]? = w.heap[i]?
    rw [Array.getElem?_append_left hi]⟩

def cmpF (x y : Fact) : Int := if Lib.compareInt x.1 y.1 ≠ 0 then Lib.compareInt x.1 y.1 else Lib.compareInt x.2 y.2
def ltF (x y : Fact) : Bool := decide (x.1 < y.1) || (x.1 == y.1 && decide (x.2 < y.2))
theorem compareInt_cases (a b : Int) : (a < b ∧ Lib.compareInt a b = -1) ∨ (a = b ∧ Lib.compareInt a b = 0) ∨ (b < a ∧ Lib.compareInt a b = 1) := by
  unfold Lib.compareInt
  by_cases h1 : a < b
  · left; simp [h1]
  · by_cases h2 : b < a
    · right; right; simp [h1, h2]
    · right; left; simp [h1, h2]; omega
theorem ltOf_cmpF (x y : Fact) : ltOf cmpF x y = ltF x y := by
  unfold ltOf cmpF ltF
  rw [Bool.eq_iff_iff]
  rcases compareInt_cases x.1 y.1 with ⟨h, e⟩ | ⟨h, e⟩ | ⟨h, e⟩ <;> rcases compareInt_cases x.2 y.2 with ⟨h', e'⟩ | ⟨h', e'⟩ | ⟨h', e'⟩ <;> rw [e, e'] <;> simp <;> omega
theorem swoF : SWO (ltOf cmpF) where
  irrefl x := by rw [ltOf_cmpF]; simp [ltF]
  trans x y z h1 h2 := by rw [ltOf_cmpF] at *; simp [ltF] at *; omega
  ntrans x y z h1 h2 := by rw [ltOf_cmpF] at *; simp [ltF] at *; omega

set_option maxHeartbeats 1000000 in
theorem or_calls (g c : Nat) (a b r : Int) (hr : r = if a ≠ 0 then a else b) (w : World) (h0 : w.cell? ⟨g, 0, none⟩ = some (.int .i64 a)) (h1 : w.cell? ⟨g, 1, none⟩ = some (.int .i64 b)) :
    Calls Try.prog 33 #[.slice (some ⟨g, 0, none⟩) 2 c] w fun e w' => e = .returned (.int .i64 r) ∧ w = w' := by
  have HR := Lib.hid hr
  clear hr
  go_enter Try.func33, Try.ntmps33
  go_wp2
  go_loopg [8] 2 (fun gg i wr => ∃ k : Nat, k ≤ 2 ∧ gg = 2 - k ∧ i = .int .i64 k ∧ wr = w ∧ (1 ≤ k → a = 0) ∧ (2 ≤ k → b = 0))
  case atStart => exact ⟨0, by omega, by omega, rfl, rfl, by omega, by omega⟩
  case round =>
    obtain ⟨k, hk, hg, rfl, rfl, ka, kb⟩ := hrel
    have hk3 : k = 0 ∨ k = 1 ∨ k = 2 := by omega
    rcases hk3 with rfl | rfl | rfl
    · have HG := Lib.hid hg
      have KA := Lib.hid ka
      have KB := Lib.hid kb
      clear hg ka kb
      by_cases ha : a = 0
      · have hab : (a != 0) = false := by simp [ha]
        have HA := Lib.hid ha
        clear ha
        go_wp2
        go_roundg 1
        case measure => have := HG.out; omega
        case rel => exact ⟨1, by omega, by omega, by go_num, rfl, fun _ => HA.out, by omega⟩
      · have hab : (a != 0) = true := by simp [ha]
        have hra : r = a := by rw [HR.out, if_pos ha]
        have HA := Lib.hid ha
        have HRA := Lib.hid hra
        clear ha hra
        go_wp2
        go_ret
        exact ⟨by rw [HRA.out]; rfl, rfl⟩
    · have ha : a = 0 := ka (by omega)
      have HG := Lib.hid hg
      have KA := Lib.hid ka
      have KB := Lib.hid kb
      clear hg ka kb
      by_cases hb : b = 0
      · have hab : (b != 0) = false := by simp [hb]
        have HA := Lib.hid ha
        have HB := Lib.hid hb
        clear ha hb
        go_wp2
        go_roundg 0
        case measure => have := HG.out; omega
        case rel => exact ⟨2, by omega, by omega, by go_num, rfl, fun _ => HA.out, fun _ => HB.out⟩
      · have hab : (b != 0) = true := by simp [hb]
        have hra : r = b := by rw [HR.out, if_neg (by simp [ha])]
        have HA := Lib.hid ha
        have HB := Lib.hid hb
        have HRA := Lib.hid hra
        clear ha hb hra
        go_wp2
        go_ret
        exact ⟨by rw [HRA.out]; rfl, rfl⟩
    · have hra : r = 0 := by rw [HR.out, if_neg (by simp [ka (by omega)]), kb (by omega)]
      have HRA := Lib.hid hra
      clear hra
      clear ka kb
      go_wp2
      go_ret
      exact ⟨by rw [HRA.out]; rfl, rfl⟩

set_option maxHeartbeats 1000000 in
theorem cmpClosure (x y : Fact) (w : World) : Calls Try.prog 32 #[.agg #[.int .i64 x.1, .int .i64 x.2], .agg #[.int .i64 y.1, .int .i64 y.2]] w fun e w' => e = .returned (.int .i64 (cmpF x y)) ∧ Grw w w' := by
  obtain ⟨x1, x2⟩ := x
  obtain ⟨y1, y2⟩ := y
  have h1 := fun (W : World) => Try.cmp_Compare_int x1 y1 W
  have h2 := fun (W : World) => Try.cmp_Compare_int x2 y2 W
  have hfin : cmpF (x1, x2) (y1, y2) = if Lib.compareInt x1 y1 ≠ 0 then Lib.compareInt x1 y1 else Lib.compareInt x2 y2 := rfl
  generalize Lib.compareInt x1 y1 = c1 at h1 hfin
  generalize Lib.compareInt x2 y2 = c2 at h2 hfin
  generalize cmpF (x1, x2) (y1, y2) = r at hfin ⊢
  have H1 := Lib.hid h1
  have H2 := Lib.hid h2
  have HFIN := Lib.hid hfin
  clear h1 h2 hfin
  simp only
  go_enter Try.func32, Try.ntmps32
  go_upto_region 1 with fail
  have c0 : ((w.alloc (.cells #[.int .i64 x1, .int .i64 x2] 56)).alloc (.cells #[.int .i64 y1, .int .i64 y2] 56)).cell? ⟨w.heap.size, 0, none⟩ = some (.int .i64 x1) := by simp
  have c1' : ((w.alloc (.cells #[.int .i64 x1, .int .i64 x2] 56)).alloc (.cells #[.int .i64 y1, .int .i64 y2] 56)).cell? ⟨w.heap.size, 1, none⟩ = some (.int .i64 x2) := by simp
  have c2' : ((w.alloc (.cells #[.int .i64 x1, .int .i64 x2] 56)).alloc (.cells #[.int .i64 y1, .int .i64 y2] 56)).cell? ⟨w.heap.size + 1, 0, none⟩ = some (.int .i64 y1) := by simp
  have c3' : ((w.alloc (.cells #[.int .i64 x1, .int .i64 x2] 56)).alloc (.cells #[.int .i64 y1, .int .i64 y2] 56)).cell? ⟨w.heap.size + 1, 1, none⟩ = some (.int .i64 y2) := by simp
  have hG : Grw w ((w.alloc (.cells #[.int .i64 x1, .int .i64 x2] 56)).alloc (.cells #[.int .i64 y1, .int .i64 y2] 56)) := ((Grw.refl w).alloc _).alloc _
  have HG := Lib.hid hG
  clear hG
  generalize (w.alloc (.cells #[.int .i64 x1, .int .i64 x2] 56)).alloc (.cells #[.int .i64 y1, .int .i64 y2] 56) = W0 at c0 c1' c2' c3' HG ⊢
  generalize w.heap.size = B0 at c0 c1' c2' c3' ⊢
  go_region_held3 (fun w' => w'.cell? ⟨B0, 0, none⟩ = some (.int .i64 x1) ∧ w'.cell? ⟨B0, 1, none⟩ = some (.int .i64 x2) ∧ w'.cell? ⟨B0 + 1, 0, none⟩ = some (.int .i64 y1) ∧ w'.cell? ⟨B0 + 1, 1, none⟩ = some (.int .i64 y2))
    (first | exact ⟨c0, c1', c2', c3'⟩ | exact ⟨kept (belowA (Below.refl _ _) _) c0, kept (belowA (Below.refl _ _) _) c1', kept (belowA (Below.refl _ _) _) c2', kept (belowA (Below.refl _ _) _) c3'⟩)
    (first
      | (go_at_call_of 34 (Value.int .i64 x1); refine (H1.out _).mono ?_; rintro e wa ⟨rfl, rfl⟩)
      | (go_at_call_of 34 (Value.int .i64 x2); refine (H2.out _).mono ?_; rintro e wb ⟨rfl, rfl⟩)
      | (go_at_call 33; refine (or_calls _ _ c1 c2 r HFIN.out _ (by simp) (by simp)).mono ?_; rintro e wc ⟨rfl, rfl⟩))
  go_wp2
  go_ret
  exact ⟨rfl, (HG.out.alloc _).drew⟩

theorem flatK_facts (l : List Fact) : flatK encF 2 l.toArray = (factCells l).toArray := by
  apply Array.ext
  · simp [factCells_length]
  · intro i h1 h2
    have hi : i < l.length * 2 := by simpa using h1
    have hk : l[i / 2]? = some (l[i / 2]'(by omega)) := List.getElem?_eq_getElem (by omega)
    obtain ⟨c0, c1⟩ := factCells_at l (i / 2) _ hk
    have hbang : l.toArray[i / 2]! = l[i / 2]'(by omega) := by simp [show i / 2 < l.length by omega]
    have hL : (flatK encF 2 l.toArray)[i] = (encF l.toArray[i / 2]!)[i % 2]! := by simp [flatK]
    rw [hL, hbang]
    have hR : (factCells l).toArray[i] = (factCells l)[i]'(by rw [factCells_length]; omega) := by simp
    rw [hR]
    rcases Nat.mod_two_eq_zero_or_one i with hm | hm
    · have e : i / 2 * 2 = i := by omega
      rw [e] at c0
      have := (List.getElem?_eq_some_iff.1 c0).2
      rw [this, hm]; rfl
    · have e : i / 2 * 2 + 1 = i := by omega
      rw [e] at c1
      have := (List.getElem?_eq_some_iff.1 c1).2
      rw [this, hm]; rfl

def sortF (l : List Fact) : List Fact := l.mergeSort fun x y => !ltF y x
theorem sortF_length (l : List Fact) : (sortF l).length = l.length := List.length_mergeSort _

theorem cmpLays (blk off size : Nat) (w : World) : CmpLays Try.prog 32 #[] encF 2 cmpF blk off size w :=
  fun _ _ _ _ x y => cmpClosure x y _

set_option maxHeartbeats 1000000 in
theorem sort_calls (base : Nat) (v : Value) (l : List Fact) (w : World) (h : OwnF w base v l) (hl : l.length < 4611686018427387904) :
    Calls Try.prog 31 #[v, .func (.func 32) #[] #[]] w fun e w' => e = .returned (.tuple #[]) ∧ OwnF w' base v (sortF l) ∧ w.grownBy w' v.ownBlock := by
  rcases id h.2 with ⟨rfl, h0⟩ | ⟨g, cap, cur, rfl, hbase, hb, hn, hm, hcs, htake⟩
  · have hnil : l = [] := List.length_eq_zero_iff.1 h0
    subst hnil
    refine (AnyF.slices_SortFunc_none Try.sortFact none 0 _ w).mono ?_
    rintro e w' ⟨rfl, rfl⟩
    exact ⟨rfl, by rw [show sortF [] = [] from by simp [sortF]]; exact h, World.grownBy.refl _ _⟩
  · have eg : ∀ args w, (callFunc 32 args).run Try.prog w = .ok (.enter 32 args) w := enters_of Try.func32 (by kernel_rfl) rfl
    have hH : HoldsK encF 2 w g 0 l.toArray := by
      unfold HoldsK
      rw [flatK_facts]
      intro j hj
      have hj' : j < l.length * 2 := by simpa [factCells_length] using hj
      refine ⟨?_, World.ownsRow.frozenAt h (0 + j)⟩
      rw [Nat.zero_add, World.ownsRow.cellAt h j hj']
      have : j < (factCells l).length := by rw [factCells_length]; exact hj'
      simp [this]
    have hblk : g < w.heap.size := (Array.getElem?_eq_some_iff.1 hb).1
    have hcon := AnyQ.slices_SortFunc_total Try.sortFact 2 Try.isAgg56 Try.sizeOf56 encF (fun _ => rfl) (fun x v hv => by simp [encF] at hv; rcases hv with rfl | rfl <;> rfl) cmpF swoF 32 #[] g 0 cap l.toArray w eg (cmpLays g 0 _ w) hH hblk (by simpa using hl)
      (fun x y h1 h2 => by rw [ltOf_cmpF] at h1 h2; simp [ltF] at h1 h2; exact Prod.ext (by omega) (by omega))
    have hsize : l.toArray.size = l.length := by simp
    rw [hsize] at hcon
    refine hcon.mono ?_
    rintro e w' ⟨rfl, n, os, rfl⟩
    have hsort : (l.toArray.toList.mergeSort fun x y => !ltOf cmpF y x) = sortF l := by simp only [ltOf_cmpF]; rfl
    rw [hsort]
    have hblock : (sortWorldK encF 2 w g 0 n (sortF l).toArray os).heap[g]? = some (.cells (putCells id 0 (factCells (sortF l)).toArray cur) 56 (0, 0)) := by
      show (grow (putRow id (Sort.ahead w n) g 0 (flatK encF 2 (sortF l).toArray)) os).heap[g]? = _
      rw [flatK_facts, heap_grow_old _ _ (by simpa using hblk)]
      simp [putRow, mapBlock, Sort.ahead, Array.getElem?_modify, hb, onCells]
    refine ⟨rfl, ⟨by rw [factCells_length], .inr ⟨g, cap, _, by rw [sortF_length], hbase, hblock, by rw [sortF_length]; exact hn, hm, by simp [putCells, hcs], ?_⟩⟩, ?_⟩
    · apply List.ext_getElem?
      intro j
      have hfl := factCells_length (sortF l)
      by_cases hj : j < (sortF l).length * 2
      · rw [List.getElem?_take_of_lt hj, Array.getElem?_toList]
        have hsl := sortF_length l
        simp [putCells, show j < cur.size by rw [hcs]; omega, show j < (factCells (sortF l)).length by omega]
      · rw [List.getElem?_take_eq_none (by omega), List.getElem?_eq_none (by omega)]
    · refine ⟨rfl, rfl, rfl, by simp [sortWorldK, putRowK], fun k hk hne => ?_⟩
      show (grow (putRow id (Sort.ahead w n) g 0 (flatK encF 2 (sortF l).toArray)) os).heap[k]? = _
      rw [heap_grow_old _ _ (by simpa using hk)]
      have : g ≠ k := fun e => hne (by rw [e]; rfl)
      simp [putRow, mapBlock, Sort.ahead, Array.getElem?_modify, this]
end Go.Proofs.Ytpogmkplmcedlaa
