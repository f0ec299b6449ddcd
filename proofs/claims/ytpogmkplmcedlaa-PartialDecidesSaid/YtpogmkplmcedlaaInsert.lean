/- slices.Insert of one fact into a row of the call's own. -/
import Derived.Test.YtpogmkplmcedlaaCopyK
namespace Go.Proofs.Ytpogmkplmcedlaa
open Go.RowKit

def insF (l : List Fact) (i : Nat) (x : Fact) : List Fact := l.take i ++ x :: l.drop i
theorem insF_len (l : List Fact) (i : Nat) (x : Fact) (h : i ≤ l.length) : (insF l i x).length = l.length + 1 := by
  simp [insF]; omega
theorem take_len {α : Type} (L : List α) (a : Nat) (h : a ≤ L.length) : (L.take a).length = a := by simp; omega
/-- two copies in a row: the tail moves up, the new cells go in -/
theorem two_copies {α : Type} (L B X : List α) (a : Nat) (h2 : a + X.length + B.length ≤ L.length) :
    let C := L.take (a + X.length) ++ B ++ L.drop (a + X.length + B.length)
    C.take a ++ X ++ C.drop (a + X.length) = L.take a ++ X ++ B ++ L.drop (a + X.length + B.length) := by
  intro C
  have hp : (L.take (a + X.length)).length = a + X.length := take_len L _ (by omega)
  have e1 : C.take a = L.take a := by
    show (L.take (a + X.length) ++ B ++ _).take a = _
    rw [List.append_assoc, List.take_append_of_le_length (by omega), List.take_take]
    congr 1
    omega
  have e2 : C.drop (a + X.length) = B ++ L.drop (a + X.length + B.length) := by
    show (L.take (a + X.length) ++ B ++ _).drop _ = _
    rw [List.append_assoc, List.drop_append_of_le_length (by omega), List.drop_eq_nil_of_le (by omega)]
    rfl
  rw [e1, e2]
  simp

theorem grown_undrew {w w1 : World} {row : Option Nat} (h : w.drew.grownBy w1 row) : w.grownBy w1 row := ⟨h.os, h.tape, h.output, h.size, h.block⟩
theorem grown_undrew2 {w w1 : World} {o : Obj} {row : Option Nat} (h : ((w.alloc o).drew).grownBy w1 row) : (w.drew.alloc o).grownBy w1 row := ⟨h.os, h.tape, h.output, h.size, h.block⟩
theorem factCells_drop (l : List Fact) : ∀ n, (factCells l).drop (n * 2) = factCells (l.drop n) := by
  induction l with
  | nil => intro n; simp [factCells]
  | cons x r ih =>
    intro n
    cases n with
    | zero => simp [factCells]
    | succ n => rw [show (n + 1) * 2 = n * 2 + 1 + 1 from by omega]; simp only [factCells, List.drop_succ_cons, ih]

set_option maxHeartbeats 4000000 in
set_option maxRecDepth 100000 in
theorem insert_room (g cap n i vb : Nat) (cur : Array Value) (l : List Fact) (x1 x2 : Int) (w : World) (hn : l.length = n) (hi : i < n) (hcap : n + 1 ≤ cap) (hmax : cap ≤ maxLen)
    (hg : w.heap[g]? = some (.cells cur 56 (0, 0))) (hsz : cur.size = cap * 2) (htake : cur.toList.take (n * 2) = factCells l)
    (hvb : w.heap[vb]? = some (.cells #[.int .i64 x1, .int .i64 x2] 56 (0, 0))) (hne : vb ≠ g) :
    Calls Try.prog 55 #[.slice (some ⟨g, 0, none⟩) n cap, .int .i64 i, .slice (some ⟨vb, 0, none⟩) 1 1] w fun e w' =>
      e = .returned (.slice (some ⟨g, 0, none⟩) (n + 1) cap) ∧ (∃ new : Array Value, w'.heap[g]? = some (.cells new 56 (0, 0)) ∧ new.size = cap * 2 ∧ new.toList.take ((n + 1) * 2) = factCells (insF l i (x1, x2))) ∧ w.grownBy w' (some g) := by
  unfold maxLen at hmax
  have hov : ∀ (W : World) lb cb, W.heap = w.heap → (callFunc 69 #[.slice (some ⟨vb, 0, none⟩) 1 1, .slice (some ⟨g, (i + 1) * 2, none⟩) lb cb]).run Try.prog W = .ok (.value (.bool false)) W := fun W lb cb hW => by
    rw [run_callFunc_extern Try.func69 (by kernel_rfl) (by kernel_rfl) (by kernel_rfl) (e := Extern.SlicesOverlaps.overlaps #[22, 22] #[4]) (by kernel_rfl),
      Lib.run_overlaps_apart W 22 4 56 Try.underlying22 2 (fun _ => by kernel_rfl) ⟨vb, 0, none⟩ ⟨g, (i + 1) * 2, none⟩ 1 1 lb cb hne 56 56 2 (cap * 2) (by simp [World.shape?, hW, hvb]) (by simp [World.shape?, hW, hg, hsz]) (by omega) (by simp [World.frozen?, hW, hvb]) (by simp [World.frozen?, hW, hvb])]
    rfl
  have hlen : cur.toList.length = cap * 2 := by simpa using hsz
  have hfl : (factCells l).length = n * 2 := by rw [factCells_length, hn]
  have hdl : (factCells (l.drop i)).length = (n - i) * 2 := by rw [factCells_length, List.length_drop, hn]
  have hB : (cur.toList.drop (i * 2)).take ((n - i) * 2) = factCells (l.drop i) := by
    rw [← factCells_drop, ← htake, List.drop_take]
    congr 1
    omega
  obtain ⟨C1, hC1⟩ : ∃ C1 : Array Value, C1 = (cur.toList.take ((i + 1) * 2) ++ factCells (l.drop i) ++ cur.toList.drop ((i + 1) * 2 + (factCells (l.drop i)).length)).toArray := ⟨_, rfl⟩
  obtain ⟨C2, hC2⟩ : ∃ C2 : Array Value, C2 = (C1.toList.take (i * 2) ++ factCells [(x1, x2)] ++ C1.toList.drop (i * 2 + (factCells [(x1, x2)]).length)).toArray := ⟨_, rfl⟩
  have hC1s : C1.size = cap * 2 := by
    rw [hC1]
    simp only [List.size_toArray, List.length_append, List.length_take, List.length_drop, hlen, hdl]
    omega
  have hx2 : (factCells [(x1, x2)]).length = 2 := rfl
  have htwo := two_copies cur.toList (factCells (l.drop i)) (factCells [(x1, x2)]) (i * 2) (by rw [hlen, hdl, hx2]; omega)
  have hC2' : C2.toList = cur.toList.take (i * 2) ++ factCells [(x1, x2)] ++ factCells (l.drop i) ++ cur.toList.drop (i * 2 + 2 + (factCells (l.drop i)).length) := by
    rw [hC2, List.toList_toArray, hC1, List.toList_toArray, show (i + 1) * 2 = i * 2 + 2 by omega]
    exact htwo
  have hti : cur.toList.take (i * 2) = factCells (l.take i) := by
    rw [← factCells_take, ← htake, List.take_take]
    congr 1
    omega
  have hfin : C2.size = cap * 2 ∧ C2.toList.take ((n + 1) * 2) = factCells (insF l i (x1, x2)) := by
    have e : factCells (insF l i (x1, x2)) = cur.toList.take (i * 2) ++ factCells [(x1, x2)] ++ factCells (l.drop i) := by
      rw [hti, insF, factCells_append, show (x1, x2) :: l.drop i = [(x1, x2)] ++ l.drop i from rfl, factCells_append, List.append_assoc]
    constructor
    · have : C2.toList.length = cap * 2 := by
        rw [hC2']
        simp only [List.length_append, List.length_take, List.length_drop, hlen, hdl, hx2]
        omega
      simpa using this
    · rw [hC2', e, List.take_append_of_le_length, List.take_of_length_le]
      · simp only [List.length_append, List.length_take, hlen, hdl, hx2]; omega
      · simp only [List.length_append, List.length_take, hlen, hdl, hx2]; omega
  have hsrc1 : ∀ j u, (factCells (l.drop i))[j]? = some u → cur.toList[i * 2 + j]? = some u := by
    intro j u hu
    rw [← hB, List.getElem?_take] at hu
    split at hu
    · rwa [List.getElem?_drop] at hu
    · cases hu
  have hmin1 : Nat.min (n + 1 - i) (n - i) = n - i := by simp only [Nat.min_def]; split <;> omega
  have hmin2 : Nat.min 1 (n + 1 - i) = 1 := by simp only [Nat.min_def]; split <;> omega
  have hcut1 : ¬ (cap = i + 1) := by omega
  have hcut2 : ¬ (cap = i) := by omega
  have hz2 : ¬ ((i : Int) = (n : Int)) := by omega
  have hz3 : ¬ ((cap : Int) < (n : Int) + 1) := by omega
  have hw1 : IntKind.i64.wrap ((i : Int) + 1) = (i : Int) + 1 := by rw [IntKind.wrap_i64]; omega
  have hb1 : (0 : Int) ≤ (i : Int) + 1 := by omega
  have htn : ((i : Int) + 1).toNat = i + 1 := by omega
  have hin : i ≤ n := by omega
  have hinI : (i : Int) ≤ n := by omega
  have hb3 : (i : Int) ≤ (n : Int) + 1 := by omega
  have hc63 : (cap : Int) ≤ 9223372036854775807 := by omega
  have HOV := Lib.hid hov
  have HLEN := Lib.hid hlen
  have HFL := Lib.hid hfl
  have HDL := Lib.hid hdl
  have HBB := Lib.hid hB
  have HC1 := Lib.hid hC1
  have HC2 := Lib.hid hC2
  have HC1S := Lib.hid hC1s
  have HX2 := Lib.hid hx2
  have HTWO := Lib.hid htwo
  have HC2' := Lib.hid hC2'
  have HTI := Lib.hid hti
  have HFIN := Lib.hid hfin
  have HSRC1 := Lib.hid hsrc1
  have HMIN1 := Lib.hid hmin1
  have HMIN2 := Lib.hid hmin2
  have HG := Lib.hid hg
  have HSZ := Lib.hid hsz
  have HTAKE := Lib.hid htake
  have HVB := Lib.hid hvb
  have HN := Lib.hid hn
  clear hov hlen hfl hdl hB hC1 hC2 hC1s hx2 htwo hC2' hti hfin hsrc1 hmin1 hmin2 hg hsz htake hvb hn
  go_enter Try.func55, Try.ntmps55
  go_wp2_with (rw [HOV.out _ _ _ rfl])
  go_region_law (refine step_copyK rfl (.tmp 73) (.tmp 76) 22 22 rfl 56 2 Try.underlying22 (by kernel_rfl) g ((i + 1) * 2) (n - i) (cap - (i + 1)) ⟨g, i * 2, none⟩ (n + 1 - i) (cap - i) (by simp [Act.eval, Act.put]) (by simp [Act.eval, Act.put]) cur C1 56 HG.out (factCells (l.drop i)) (by rw [HMIN1.out]; exact HDL.out) (cells_at (w := w) HG.out _ _ HSRC1.out) (by rw [HDL.out, HSZ.out]; omega) (factCells_one _) (by rw [HC1.out]) ?_; intro w2 hg2 hgr2)
  all_goals
    have hvb2 : w2.heap[vb]? = some (.cells #[.int .i64 x1, .int .i64 x2] 56 (0, 0)) := by
      rw [hgr2.out.block vb (Array.getElem?_eq_some_iff.1 HVB.out).1 (fun e => hne (by injection e))]
      exact HVB.out
    have HVB2 := Lib.hid hvb2
    clear hvb2
    go_wp2_with (refine wpList_copyK rfl (.tmp 80) (.tmp 81) 22 22 rfl 56 2 Try.underlying22 (by kernel_rfl) g (i * 2) (n + 1 - i) (cap - i) ⟨vb, 0, none⟩ 1 1 rfl rfl C1 C2 56 hg2.out (factCells [(x1, x2)]) (by rw [HMIN2.out]; rfl) (cells_at HVB2.out 0 _ (fun j u hu => by simpa [factCells] using hu)) (by rw [HX2.out, HC1S.out]; omega) (factCells_one _) (by rw [HC2.out]) ?_; intro w3 hg3 hgr3)
    go_ret
    refine ⟨rfl, ⟨C2, hg3.out, HFIN.out.1, HFIN.out.2⟩, ?_⟩
    exact World.grownBy.trans (grown_undrew hgr2.out) hgr3.out

set_option maxHeartbeats 4000000 in
set_option maxRecDepth 100000 in
theorem insert_grow (g cap n i vb : Nat) (cur : Array Value) (l : List Fact) (x1 x2 : Int) (w : World) (hn : l.length = n) (hi : i < n) (hcap : cap < n + 1) (hnc : n ≤ cap) (hroom : (n + 1) * 16 ≤ 140737488355328)
    (hg : w.heap[g]? = some (.cells cur 56 (0, 0))) (hsz : cur.size = cap * 2) (htake : cur.toList.take (n * 2) = factCells l)
    (hvb : w.heap[vb]? = some (.cells #[.int .i64 x1, .int .i64 x2] 56 (0, 0))) :
    Calls Try.prog 55 #[.slice (some ⟨g, 0, none⟩) n cap, .int .i64 i, .slice (some ⟨vb, 0, none⟩) 1 1] w fun e w' =>
      ∃ cap2, e = .returned (.slice (some ⟨w.heap.size, 0, none⟩) (n + 1) cap2) ∧ n + 1 ≤ cap2 ∧ cap2 ≤ maxLen ∧ (∃ new : Array Value, w'.heap[w.heap.size]? = some (.cells new 56 (0, 0)) ∧ new.size = cap2 * 2 ∧ new.toList.take ((n + 1) * 2) = factCells (insF l i (x1, x2))) ∧ w.grownBy w' (some w.heap.size) := by
  obtain ⟨i0, hi0, hz0, hzs, hzb⟩ := info_parts factInfo
  have hlen : cur.toList.length = cap * 2 := by simpa using hsz
  have hdl : (factCells (l.drop i)).length = (n - i) * 2 := by rw [factCells_length, List.length_drop, hn]
  have hti : (factCells (l.take i)).length = i * 2 := by rw [factCells_length, List.length_take, hn]; omega
  have hx2 : (factCells [(x1, x2)]).length = 2 := rfl
  have hcur : ∀ (j : Nat) (u : Value), (factCells l)[j]? = some u → cur.toList[j]? = some u := by
    intro j u hu
    rw [← htake, List.getElem?_take] at hu
    split at hu
    · exact hu
    · cases hu
  have hsrc0 : ∀ j u, (factCells (l.take i))[j]? = some u → cur.toList[0 + j]? = some u := by
    intro j u hu
    rw [← factCells_take, List.getElem?_take] at hu
    split at hu
    · rw [Nat.zero_add]; exact hcur j u hu
    · cases hu
  have hsrc1 : ∀ j u, (factCells (l.drop i))[j]? = some u → cur.toList[i * 2 + j]? = some u := by
    intro j u hu
    rw [← factCells_drop, List.getElem?_drop] at hu
    exact hcur _ u hu
  have hold : ∀ W : World, W.heap = w.heap → (Builtin.firstCells i0.size i (.slice (some ⟨g, 0, none⟩) i cap)).run Try.prog W = .ok (factCells (l.take i)).toArray W := fun W hW => by
    rw [hzs]
    exact run_firstCells_some W 2 i ⟨g, 0, none⟩ i cap (factCells (l.take i)) hti (cells_at (by rw [hW]; exact hg) 0 _ hsrc0)
  obtain ⟨G, hG⟩ : ∃ G, G = grownCap w (n + 1) cap 56 := ⟨_, rfl⟩
  have hGn : n + 1 ≤ G := by rw [hG]; exact grownCap_ge w _ _ _
  have hGm : G ≤ maxLen := by rw [hG]; exact grownCap_le_maxLen w _ _ _ (by unfold maxLen; omega)
  obtain ⟨C0, hC0⟩ : ∃ C0 : Array Value, C0 = (factCells (l.take i)).toArray ++ Builtin.zeroCells (Value.agg #[.int .i64 0, .int .i64 0]).cells (n + 1 - i) ++ Builtin.zeroCells (Value.agg #[.int .i64 0, .int .i64 0]).cells (G - (n + 1)) := ⟨_, rfl⟩
  have hzc : ∀ k, (Builtin.zeroCells (Value.agg #[.int .i64 0, .int .i64 0]).cells k).size = k * 2 := fun k => by
    have : (Value.agg #[.int .i64 0, .int .i64 0]).cells.size = 2 := by kernel_rfl
    simp [Builtin.zeroCells, this]
  have hC0s : C0.size = G * 2 := by
    rw [hC0]
    simp only [Array.size_append, hzc, List.size_toArray, hti]
    omega
  have hrz : ∀ ty, (Builtin.append_ #[22, 3] ty #[.slice (some ⟨g, 0, none⟩) i cap, .int .i64 ((n : Int) + 1 - (i : Int))]).run Try.prog w =
      .ok (.slice (some ⟨w.heap.size, 0, none⟩) (n + 1) G) (w.drew.alloc (.cells C0 56)) := fun ty => by
    have h := Lib.run_append_grow_zeros w 22 3 ty 56 i0 _ .i64 .i64 Try.underlying22 Try.underlying3 hi0 hz0 (some ⟨g, 0, none⟩) i cap (factCells (l.take i)) (hold w.drew rfl) (n + 1 - i) (by omega) (by omega) (by omega) (by omega) (by rw [hzb]; omega) (by rw [hzb, show i + (n + 1 - i) = n + 1 by omega]; exact growslice_fits hcap hroom)
    rw [show i + (n + 1 - i) = n + 1 by omega, ← hG, ← hC0] at h
    rw [show (n : Int) + 1 - (i : Int) = ((n + 1 - i : Nat) : Int) by omega]
    exact h
  obtain ⟨C1, hC1⟩ : ∃ C1 : Array Value, C1 = (C0.toList.take (i * 2) ++ factCells [(x1, x2)] ++ C0.toList.drop (i * 2 + (factCells [(x1, x2)]).length)).toArray := ⟨_, rfl⟩
  obtain ⟨C2, hC2⟩ : ∃ C2 : Array Value, C2 = (C1.toList.take ((i + 1) * 2) ++ factCells (l.drop i) ++ C1.toList.drop ((i + 1) * 2 + (factCells (l.drop i)).length)).toArray := ⟨_, rfl⟩
  have hC0l : C0.toList.length = G * 2 := by simpa using hC0s
  have hC1s : C1.size = G * 2 := by
    rw [hC1]
    simp only [List.size_toArray, List.length_append, List.length_take, List.length_drop, hC0l, hx2]
    omega
  have hC1l : C1.toList.length = G * 2 := by simpa using hC1s
  have hC2s : C2.size = G * 2 := by
    rw [hC2]
    simp only [List.size_toArray, List.length_append, List.length_take, List.length_drop, hC1l, hdl]
    omega
  have hfin : C2.toList.take ((n + 1) * 2) = factCells (insF l i (x1, x2)) := by
    have e : factCells (insF l i (x1, x2)) = factCells (l.take i) ++ factCells [(x1, x2)] ++ factCells (l.drop i) := by
      rw [insF, factCells_append, show (x1, x2) :: l.drop i = [(x1, x2)] ++ l.drop i from rfl, factCells_append, List.append_assoc]
    have e0 : C0.toList.take (i * 2) = factCells (l.take i) := by
      rw [hC0, Array.toList_append, Array.toList_append, List.toList_toArray, List.append_assoc, List.take_append_of_le_length (by omega), List.take_of_length_le (by omega)]
    have e1 : C1.toList.take ((i + 1) * 2) = factCells (l.take i) ++ factCells [(x1, x2)] := by
      rw [hC1, List.toList_toArray, e0, List.take_append_of_le_length (by rw [List.length_append, hti, hx2]; omega), List.take_of_length_le (by rw [List.length_append, hti, hx2]; omega)]
    rw [hC2, List.toList_toArray, e1, e, List.take_append_of_le_length (by simp only [List.length_append, hti, hx2, hdl]; omega), List.take_of_length_le (by simp only [List.length_append, hti, hx2, hdl]; omega)]
  have hgw : g < w.heap.size := (Array.getElem?_eq_some_iff.1 hg).1
  have hvw : vb < w.heap.size := (Array.getElem?_eq_some_iff.1 hvb).1
  have hmin1 : Nat.min (n - i) (n - i) = n - i := by simp only [Nat.min_def]; split <;> omega
  have hmin2 : Nat.min 1 (n + 1 - i) = 1 := by simp only [Nat.min_def]; split <;> omega
  have hcut0 : ¬ (cap = i) := by omega
  have hcut1 : ¬ (G = i + 1) := by omega
  have hcut2 : ¬ (G = i) := by omega
  have hz2 : ¬ ((i : Int) = (n : Int)) := by omega
  have hz3 : (cap : Int) < (n : Int) + 1 := by omega
  have hw1 : IntKind.i64.wrap ((i : Int) + 1) = (i : Int) + 1 := by rw [IntKind.wrap_i64]; omega
  have hb1 : (0 : Int) ≤ (i : Int) + 1 := by omega
  have htn : ((i : Int) + 1).toNat = i + 1 := by omega
  have hin : i ≤ n := by omega
  have hinI : (i : Int) ≤ n := by omega
  have hb3 : (i : Int) ≤ (n : Int) + 1 := by omega
  have hic : i ≤ cap := by omega
  have hG63 : (G : Int) ≤ 9223372036854775807 := by unfold maxLen at hGm; omega
  have hB0 : Hid (w.grownBy (w.drew.alloc (.cells C0 56)) (some w.heap.size)) := grown_undrew (World.grownBy_alloc w.drew _ _)
  have hg0 : Hid ((w.drew.alloc (.cells C0 56)).heap[w.heap.size]? = some (.cells C0 56 (0, 0))) := heap_alloc_new w.drew _
  have hvbA : Hid ((w.alloc (.cells C0 56)).heap[vb]? = some (.cells #[.int .i64 x1, .int .i64 x2] 56 (0, 0))) := by
    show _ = _
    rw [(World.grownBy_alloc w (.cells C0 56) none).block vb hvw (by simp)]
    exact hvb
  have HLEN := Lib.hid hlen
  have HDL := Lib.hid hdl
  have HTI := Lib.hid hti
  have HX2 := Lib.hid hx2
  have HCUR := Lib.hid hcur
  have HSRC0 := Lib.hid hsrc0
  have HSRC1 := Lib.hid hsrc1
  have HOLD := Lib.hid hold
  have HGG := Lib.hid hG
  have HC0 := Lib.hid hC0
  have HZC := Lib.hid hzc
  have HC0S := Lib.hid hC0s
  have HRZ := Lib.hid hrz
  have HC1 := Lib.hid hC1
  have HC2 := Lib.hid hC2
  have HC0L := Lib.hid hC0l
  have HC1S := Lib.hid hC1s
  have HC1L := Lib.hid hC1l
  have HC2S := Lib.hid hC2s
  have HFIN := Lib.hid hfin
  have HMIN1 := Lib.hid hmin1
  have HMIN2 := Lib.hid hmin2
  have HG := Lib.hid hg
  have HSZ := Lib.hid hsz
  have HTAKE := Lib.hid htake
  have HVB := Lib.hid hvb
  have HN := Lib.hid hn
  clear hlen hdl hti hx2 hcur hsrc0 hsrc1 hold hG hC0 hzc hC0s hrz hC1 hC2 hC0l hC1s hC1l hC2s hfin hmin1 hmin2 hg hsz htake hvb hn
  clear hi0 hz0 hzs hzb
  go_enter Try.func55, Try.ntmps55
  go_wp2_with (first
    | (at_builtin; refine Lib.wpList_append_run _ rfl _ _ _ _ rfl _ _ rfl rfl _ _ (HRZ.out _) ?_)
    | (refine wpList_copyK rfl (.tmp 43) (.tmp 44) 22 22 rfl 56 2 Try.underlying22 (by kernel_rfl) w.heap.size (i * 2) (n + 1 - i) (G - i) ⟨vb, 0, none⟩ 1 1 rfl rfl C0 C1 56 hg0.out (factCells [(x1, x2)]) (by rw [HMIN2.out]; rfl) (cells_at (w := (w.alloc (.cells C0 56)).drew) (hvbA.out) 0 _ (fun j u hu => by simpa [factCells] using hu)) (by rw [HX2.out, HC0S.out]; omega) (factCells_one _) (by rw [HC1.out]) ?_; intro w2 hg2 hgr2))
  have hgr2' : Hid (w.grownBy w2 (some w.heap.size)) := World.grownBy.trans hB0.out (grown_undrew2 hgr2.out)
  have hgg2 : Hid (w2.heap[g]? = some (.cells cur 56 (0, 0))) := by
    show _ = _
    rw [hgr2'.out.block g hgw (fun e => by injection e; omega)]
    exact HG.out
  clear hgr2
  go_region_law (refine step_copyK rfl (.tmp 50) (.tmp 53) 22 22 rfl 56 2 Try.underlying22 (by kernel_rfl) w.heap.size ((i + 1) * 2) (n - i) (G - (i + 1)) ⟨g, i * 2, none⟩ (n - i) (cap - i) (by simp [Act.eval, Act.put]) (by simp [Act.eval, Act.put]) C1 C2 56 hg2.out (factCells (l.drop i)) (by rw [HMIN1.out]; exact HDL.out) (cells_at hgg2.out _ _ HSRC1.out) (by rw [HDL.out, HC1S.out]; omega) (factCells_one _) (by rw [HC2.out]) ?_; intro w3 hg3 hgr3)
  all_goals
    go_wp2_with fail
    go_ret
    exact ⟨G, rfl, hGn, hGm, ⟨C2, hg3.out, HC2S.out, HFIN.out⟩, World.grownBy.trans hgr2'.out (grown_undrew hgr3.out)⟩

theorem below_of_grown {w w' : World} {row : Option Nat} {base : Nat} (h : w.grownBy w' row) (hb : base ≤ w.heap.size) (hr : ∀ g, row = some g → base ≤ g) : Below base w w' :=
  ⟨h.os, h.tape, h.output, h.size, fun i hi => h.block i (by omega) (fun e => by have := hr _ e.symm; omega)⟩
theorem reads_block {w : World} {vb : Nat} {x1 x2 : Int} (hvb : w.heap[vb]? = some (.cells #[.int .i64 x1, .int .i64 x2] 56 (0, 0))) : Reads w w.heap.size 2 (some ⟨vb, 0, none⟩) 1 (factCells [(x1, x2)]) :=
  ⟨rfl, fun _ => ⟨_, rfl, (Array.getElem?_eq_some_iff.1 hvb).1, cells_at hvb 0 _ (fun j u hu => by simpa [factCells] using hu)⟩⟩

set_option maxHeartbeats 4000000 in
set_option maxRecDepth 100000 in
theorem insert_end (base vb : Nat) (v : Value) (l : List Fact) (x1 x2 : Int) (w : World) (hown : OwnF w base v l) (hroom : (l.length + 1) * 16 ≤ 140737488355328) (hbase : base ≤ w.heap.size)
    (hvb : w.heap[vb]? = some (.cells #[.int .i64 x1, .int .i64 x2] 56 (0, 0))) :
    Calls Try.prog 55 #[v, .int .i64 l.length, .slice (some ⟨vb, 0, none⟩) 1 1] w fun e w' => ∃ v', e = .returned v' ∧ OwnF w' base v' (insF l l.length (x1, x2)) ∧ Below base w w' := by
  obtain ⟨i0, hi0, hz0, hz1, hz2⟩ := info_parts factInfo
  have hr := reads_block hvb
  rcases id hown.2 with ⟨rfl, h0⟩ | ⟨g, cap, cur, rfl, _, _, hnc, hm, _, _⟩
  · have HR := Lib.hid hr
    have HVB := Lib.hid hvb
    have HOWN := Lib.hid hown
    clear hr hvb hown
    obtain ⟨n, hn⟩ : ∃ n, n = l.length := ⟨_, rfl⟩
    have hl : l = [] := List.length_eq_zero_iff.1 h0
    subst hl
    clear h0 hn n
    simp only [List.length_nil, Int.natCast_zero] at *
    go_enter Try.func55, Try.ntmps55
    go_wp2_with (at_builtin; refine wpList_append_any _ rfl (.tmp 23) (.tmp 24) _ rfl base 56 i0 _ 2 16 Try.underlying22 hi0 hz0 hz1 hz2 rfl (by omega) _ 0 (factCells []) rfl HOWN.out _ _ 1 1 (factCells [(x1, x2)]) rfl HR.out (factCells_one _) (by simp only [maxLen]; omega) (by omega) hbase ?_; intro v1 w1 hown1 hg1 hat1)
    go_ret
    exact ⟨v1, rfl, hown1, below_of_grown hg1 hbase (fun k hk => (HOWN.out.lt k hk).1)⟩
  · have hown : w.ownsRow base 56 2 (.slice (some ⟨g, 0, none⟩) l.length cap) l.length (factCells l) := hown
    generalize hnn : l.length = n at hnc hown hroom ⊢
    unfold maxLen at hm
    have hnI : (n : Int) ≤ (cap : Int) := by omega
    have e : factCells l ++ factCells [(x1, x2)] = factCells (insF l n (x1, x2)) := by rw [← factCells_append]; simp [insF, ← hnn]
    have e2 : (insF l n (x1, x2)).length = n + 1 := by simp [insF, ← hnn]
    have HR := Lib.hid hr
    have HVB := Lib.hid hvb
    have HOWN := Lib.hid hown
    have HNN := Lib.hid hnn
    have HE := Lib.hid e
    have HE2 := Lib.hid e2
    clear hr hvb hown hnn e e2
    by_cases hcc : cap = n
    · subst hcc
      go_enter Try.func55, Try.ntmps55
      go_wp2_with (at_builtin; refine wpList_append_any _ rfl (.tmp 23) (.tmp 24) _ rfl base 56 i0 _ 2 16 Try.underlying22 hi0 hz0 hz1 hz2 rfl (by omega) _ cap (factCells l) rfl HOWN.out _ _ 1 1 (factCells [(x1, x2)]) rfl HR.out (factCells_one _) (by simp only [maxLen]; omega) (by omega) hbase ?_; intro v1 w1 hown1 hg1 hat1)
      go_ret
      refine ⟨v1, rfl, ?_, below_of_grown hg1 hbase (fun k hk => (HOWN.out.lt k hk).1)⟩
      rw [HE.out] at hown1
      unfold OwnF
      rw [HE2.out]
      exact hown1
    · go_enter Try.func55, Try.ntmps55
      go_wp2_with (at_builtin; refine wpList_append_any _ rfl (.tmp 23) (.tmp 24) _ rfl base 56 i0 _ 2 16 Try.underlying22 hi0 hz0 hz1 hz2 rfl (by omega) _ n (factCells l) rfl HOWN.out _ _ 1 1 (factCells [(x1, x2)]) rfl HR.out (factCells_one _) (by simp only [maxLen]; omega) (by omega) hbase ?_; intro v1 w1 hown1 hg1 hat1)
      go_ret
      refine ⟨v1, rfl, ?_, below_of_grown hg1 hbase (fun k hk => (HOWN.out.lt k hk).1)⟩
      rw [HE.out] at hown1
      unfold OwnF
      rw [HE2.out]
      exact hown1

theorem insert_calls (base vb i : Nat) (v : Value) (l : List Fact) (x1 x2 : Int) (w : World) (hown : OwnF w base v l) (hi : i ≤ l.length) (hroom : (l.length + 1) * 16 ≤ 140737488355328) (hbase : base ≤ w.heap.size)
    (hvb : w.heap[vb]? = some (.cells #[.int .i64 x1, .int .i64 x2] 56 (0, 0))) (hne : ∀ g, v.ownBlock = some g → vb ≠ g) :
    Calls Try.prog 55 #[v, .int .i64 i, .slice (some ⟨vb, 0, none⟩) 1 1] w fun e w' => ∃ v', e = .returned v' ∧ OwnF w' base v' (insF l i (x1, x2)) ∧ Below base w w' := by
  by_cases hin : i = l.length
  · subst hin
    exact insert_end base vb v l x1 x2 w hown hroom hbase hvb
  · rcases id hown.2 with ⟨rfl, h0⟩ | ⟨g, cap, cur, rfl, hbg, hg, hnc, hm, hcs, htake⟩
    · omega
    · have hlen := insF_len l i (x1, x2) hi
      by_cases hc : l.length + 1 ≤ cap
      · refine (insert_room g cap l.length i vb cur l x1 x2 w rfl (by omega) hc hm hg hcs htake hvb (hne g rfl)).mono ?_
        rintro e w' ⟨rfl, ⟨new, hn1, hn2, hn3⟩, hgr⟩
        refine ⟨_, rfl, ?_, below_of_grown hgr hbase (fun k hk => by injection hk with hk; omega)⟩
        unfold OwnF
        rw [hlen]
        exact ⟨by rw [factCells_length, hlen], .inr ⟨g, cap, new, rfl, hbg, hn1, hc, hm, hn2, hn3⟩⟩
      · refine (insert_grow g cap l.length i vb cur l x1 x2 w rfl (by omega) (by omega) hnc hroom hg hcs htake hvb).mono ?_
        rintro e w' ⟨cap2, rfl, hc1, hc2, ⟨new, hn1, hn2, hn3⟩, hgr⟩
        refine ⟨_, rfl, ?_, below_of_grown hgr hbase (fun k hk => by injection hk with hk; omega)⟩
        unfold OwnF
        rw [hlen]
        exact ⟨by rw [factCells_length, hlen], .inr ⟨w.heap.size, cap2, new, rfl, hbase, hn1, hc1, hc2, hn2, hn3⟩⟩
end Go.Proofs.Ytpogmkplmcedlaa
