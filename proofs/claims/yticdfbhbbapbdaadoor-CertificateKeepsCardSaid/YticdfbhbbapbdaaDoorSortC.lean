/- certificate.Sort. -/
import Derived.Test.YticdfbhbbapbdaaDoorCloneN
import Derived.Test.YticdfbhbbapbdaaDoorCheck
namespace Go.Proofs.YticdfbhbbapbdaaDoor
open Go.RowKit

def leNB (x y : Nogood) : Bool := !decide (cmpN y x < 0)
theorem leNB_iff (x y : Nogood) : leNB x y = true ↔ LtN x y ∨ x = y := by
  unfold leNB
  rw [← leN_iff, ← cmpN_lt]
  simp
def sortN (l : List Nogood) : List Nogood := l.mergeSort leNB
theorem sortN_perm (l : List Nogood) : (sortN l).Perm l := List.mergeSort_perm l _
theorem leN_trans {x y z : Nogood} (a : LtN x y ∨ x = y) (b : LtN y z ∨ y = z) : LtN x z ∨ x = z := by
  rcases a with a | rfl <;> rcases b with b | rfl
  · exact .inl (LtN_trans a b)
  · exact .inl a
  · exact .inl b
  · exact .inr rfl
theorem sortN_sorted (l : List Nogood) : (sortN l).Pairwise (fun x y => LtN x y ∨ x = y) := by
  have := List.pairwise_mergeSort (le := leNB) (fun a b c h1 h2 => by rw [leNB_iff] at *; exact leN_trans h1 h2) (fun a b => by rw [Bool.or_eq_true, leNB_iff, leNB_iff]; rcases LtN_tri a b with h | h | h <;> simp [h]) l
  exact this.imp (fun h => (leNB_iff _ _).1 h)
theorem sortN_unique {a l : List Nogood} (hp : a.Perm l) (hs : a.Pairwise (fun x y => LtN x y ∨ x = y)) : a = sortN l :=
  List.Perm.eq_of_pairwise (fun x y _ _ h1 h2 => by
    rcases h1 with h1 | rfl
    · rcases h2 with h2 | rfl
      · exact absurd (LtN_trans h1 h2) (LtN_irr _)
      · rfl
    · rfl) hs (sortN_sorted l) (hp.trans (sortN_perm l).symm)

theorem insertion_nil (w : World) : Calls Tryd.prog 75 #[.slice none 0 0, .int .i64 0, .int .i64 0, .func (.func 45) #[] #[]] w fun e w' => e = .returned (.tuple #[]) ∧ w = w' := by
  go_enter Tryd.func75, Tryd.ntmps75
  go_wp2
  go_loopg [8] 0 (fun gh iv wr => gh = 0 ∧ iv = .int .i64 1 ∧ wr = w)
  case atStart => exact ⟨rfl, rfl, rfl⟩
  case round =>
    obtain ⟨hg, rfl, rfl⟩ := hrel
    clear hg
    go_wp2
    go_end0
    exact ⟨rfl, rfl⟩
theorem stable_nil (w : World) : Calls Tryd.prog 62 #[.slice none 0 0, .int .i64 0, .func (.func 45) #[] #[]] w fun e w' => e = .returned (.tuple #[]) ∧ w = w' := by
  go_enter Tryd.func62, Tryd.ntmps62
  go_wp2
  go_loopg [7, 8] 0 (fun gh av bv wr => gh = 0 ∧ av = .int .i64 0 ∧ bv = .int .i64 20 ∧ wr = w)
  case atStart => exact ⟨rfl, rfl, rfl, rfl⟩
  case round =>
    obtain ⟨hg, rfl, rfl, rfl⟩ := hrel
    clear hg
    go_wp2_with (go_at_call 75; refine (insertion_nil _).mono ?_; rintro e w1 ⟨rfl, rfl⟩)
    go_loopg [6, 7, 8, 9] 0 (fun gh sv av bv mv w2 => gh = 0 ∧ sv = .int .i64 20 ∧ w2 = wr)
    case atStart => exact ⟨rfl, rfl, rfl⟩
    case round =>
      obtain ⟨hg, rfl, rfl⟩ := hrel
      clear hg
      go_wp2
      go_end0
      exact ⟨rfl, rfl⟩
theorem sortStable_nil (w : World) : Calls Tryd.prog 44 #[.slice none 0 0, .func (.func 45) #[] #[]] w fun e w' => e = .returned (.tuple #[]) ∧ w = w' := by
  go_enter Tryd.func44, Tryd.ntmps44
  go_wp2_with (go_at_call 62; refine (stable_nil _).mono ?_; rintro e w1 ⟨rfl, rfl⟩)
  go_end0
  exact ⟨rfl, rfl⟩

theorem itemCells_get (its : List Item) (j : Nat) : (itemCells its)[j]? = (its[j / 2]?).map (fun x => if j % 2 = 0 then Value.slice x.1.1 x.1.2.1 x.1.2.2 else .int .i64 x.2.2) := by
  cases h : its[j / 2]? with
  | none =>
    rw [List.getElem?_eq_none_iff] at h
    rw [List.getElem?_eq_none (by rw [itemCells_length]; omega)]
    rfl
  | some x =>
    obtain ⟨a, b⟩ := itemCells_at its (j / 2) x h
    rcases Nat.mod_two_eq_zero_or_one j with hm | hm
    · rw [show j / 2 * 2 = j by omega] at a
      rw [a]; simp [hm]
    · rw [show j / 2 * 2 + 1 = j by omega] at b
      rw [b]; simp [hm]
theorem row_own {w : World} {g cap N base : Nat} {f : Nat → Item} (h : RowI w g cap N f) (hb : base ≤ g) (hc : cap ≤ maxLen) : w.ownsRow base 45 2 (.slice (some ⟨g, 0, none⟩) N cap) N (itemCells ((List.range N).map f)) := by
  obtain ⟨cur, h1, h2, h3, h4⟩ := h
  refine ⟨by rw [itemCells_length]; simp, .inr ⟨g, cap, cur, rfl, hb, h1, h3, hc, h2, ?_⟩⟩
  refine List.ext_getElem? (fun j => ?_)
  rw [itemCells_get, List.getElem?_map, List.getElem?_take]
  by_cases hj : j < N * 2
  · rw [if_pos hj, List.getElem?_range (by omega)]
    obtain ⟨a, b⟩ := h4 (j / 2) (by omega)
    rcases Nat.mod_two_eq_zero_or_one j with hm | hm
    · rw [show j / 2 * 2 = j by omega] at a
      simp [hm, a]
    · rw [show j / 2 * 2 + 1 = j by omega] at b
      simp [hm, b]
  · rw [if_neg hj, List.getElem?_eq_none (by simp; omega)]
    rfl
theorem sortOwn_calls (base : Nat) (v : Value) (l : List Nogood) (w : World) (h : OwnN w base v l) (hN : l.length ≤ 100000) :
    Calls Tryd.prog 44 #[v, cmpV] w fun e w' => e = .returned (.tuple #[]) ∧ OwnN w' base v (sortN l) ∧ w.grownBy w' v.ownBlock := by
  by_cases hv : v = .slice none 0 0
  · subst hv
    have hl : l = [] := by
      obtain ⟨its, h1, ho, _⟩ := h
      rcases ho.2 with ⟨_, h0⟩ | ⟨g, cap, cur, hv, _⟩
      · exact List.length_eq_zero_iff.1 h0
      · injection hv with hv; cases hv
    subst hl
    refine (sortStable_nil w).mono ?_
    rintro e w' ⟨rfl, rfl⟩
    exact ⟨rfl, by rw [show sortN [] = [] by simp [sortN]]; exact h, World.grownBy.refl _ _⟩
  · obtain ⟨g, cap, f, rfl, hbg, hr, hgd, hl, hen, hcm⟩ := h.row hv
    refine (sortStable_calls ordI g cap l.length f w hr hgd hN).mono ?_
    rintro e w' ⟨rfl, f', hr', hp, hw, hs, hg⟩
    have hlist : (List.range l.length).map (fun k => (f' k).2) = sortN l := by
      refine sortN_unique ?_ ?_
      · have h2 := hp.map (·.2)
        rw [List.map_map, List.map_map] at h2
        have e1 : (List.range l.length).map ((fun x : Item => x.2) ∘ f) = l := hl
        rw [e1] at h2
        exact h2
      · rw [List.pairwise_map]
        refine List.Pairwise.imp_of_mem ?_ (List.pairwise_lt_range (n := l.length))
        intro a b ha hb' hab
        have := hs a b (Nat.zero_le _) hab (List.mem_range.1 hb')
        rw [leI_iff, leN_iff] at this
        exact this
    have hlen : (sortN l).length = l.length := (sortN_perm l).length_eq
    obtain ⟨cur, hcur, _⟩ := id hr
    refine ⟨rfl, ⟨(List.range l.length).map f', by rw [List.map_map]; exact hlist, by rw [hlen]; exact row_own hr' hbg hcm, fun x hx => ?_⟩, hg⟩
    obtain ⟨k, hk, rfl⟩ := List.mem_map.1 hx
    obtain ⟨k', _, h2, e⟩ := hw.2 k (Nat.zero_le _) (List.mem_range.1 hk)
    rw [e]
    exact (hen k' h2).other hg hcur

theorem OwnN.lt {w : World} {base : Nat} {v : Value} {l : List Nogood} (h : OwnN w base v l) : ∀ r, v.ownBlock = some r → base ≤ r ∧ r < w.heap.size := by
  obtain ⟨_, _, ho, _⟩ := h
  exact fun r hr => ho.lt r hr
def sortC (bd : Int) (l : List Nogood) : List Nogood := if checkF bd l = 0 then sortN l else l
theorem checkF_len {bd : Int} {l : List Nogood} (h : checkF bd l = 0) : l.length ≤ 4096 := by
  unfold checkF at h
  split at h
  · cases h
  · split at h
    · cases h
    · omega


set_option maxHeartbeats 4000000 in
set_option maxRecDepth 100000 in
theorem sort_calls (bd : Int) (v : Value) (l : List Nogood) (w : World) (hv : NogoodsAt w v l) :
    Calls Tryd.prog 23 #[.agg #[.int .i64 bd, v]] w fun e w' => ∃ v', e = .returned (.agg #[.int .i64 bd, v']) ∧ OwnN w' w.heap.size v' (sortC bd l) ∧ Below w.heap.size w w' := by
  obtain ⟨A, n, c, rfl, hn, hm⟩ := hv.form
  obtain ⟨W0, hW0⟩ : ∃ W0, W0 = (w.alloc (.cells #[.int .i64 bd, .slice A n c] 25)).alloc (.cells #[.int .i64 0, .slice none 0 0] 25) := ⟨_, rfl⟩
  have hBW : Below w.heap.size w W0 := by rw [hW0]; exact belowA (belowA (Below.refl _ _) _) _
  have p0 : W0.cell? ⟨w.heap.size, 0, none⟩ = some (.int .i64 bd) := by rw [hW0]; simp
  have p1 : W0.cell? ⟨w.heap.size, 1, none⟩ = some (.slice A n c) := by rw [hW0]; simp
  have hrb : W0.heap[w.heap.size + 1]? = some (.cells #[.int .i64 0, .slice none 0 0] 25 (0, 0)) := by
    rw [hW0]
    have := heap_alloc_new (w.alloc (.cells #[.int .i64 bd, .slice A n c] 25)) (.cells #[.int .i64 0, .slice none 0 0] 25)
    simpa using this
  have hsz : w.heap.size + 2 = W0.heap.size := by rw [hW0]; simp
  have hv0 := hv.keep hBW
  have hcl := clone_calls bd _ l _ hv0
  have HV := Lib.hid hv
  have HN := Lib.hid hn
  have HW0 := Lib.hid hW0
  have HBW := Lib.hid hBW
  have HRB := Lib.hid hrb
  have HV0 := Lib.hid hv0
  have HCL := Lib.hid hcl
  have HSZ := Lib.hid hsz
  clear hv hn hW0 hBW hrb hv0 hcl hsz
  go_enter Tryd.func23, Tryd.ntmps23
  go_upto_region 1 with fail
  rw [← HW0.out]
  go_upto_region 2 with (go_at_call 43; refine HCL.out.mono ?_; rintro e w1 ⟨v1, rfl, hown, hb1⟩; obtain ⟨A1, c1, rfl⟩ := hown.form; obtain ⟨n1, hn1⟩ : ∃ n1, n1 = l.length := ⟨_, rfl⟩; rw [← hn1] at hown ⊢; have HOWN := Lib.hid hown; have HB1 := Lib.hid hb1; have HN1 := Lib.hid hn1; clear hown hb1 hn1)
  have hown := HOWN.out
  have hb1 := HB1.out
  have hn1 := HN1.out
  obtain ⟨W2, hW2⟩ : ∃ W2, W2 = w1.alloc (.cells #[.int .i64 bd, .slice A1 n1 c1] 25) := ⟨_, rfl⟩
  rw [← hW2]
  have hB2 : Below w1.heap.size w1 W2 := by rw [hW2]; exact belowA (Below.refl _ _) _
  have q3 : W2.heap[w1.heap.size]? = some (.cells #[.int .i64 bd, .slice A1 n1 c1] 25 (0, 0)) := by rw [hW2]; exact heap_alloc_new _ _
  have hB02 := belowT hb1 hB2
  have q0 := kept hB02 p0
  have q1 := kept hB02 p1
  have hlt1 := hown.lt
  have hck := check_calls bd _ l _ (HV0.out.keep hB02)
  have hown2 := hown.keep hB2
  have hsz1 : w1.heap.size < W2.heap.size := by rw [hW2]; simp
  have hs01 := hb1.size
  by_cases hz : checkF bd l = 0
  · have hso : sortC bd l = sortN l := if_pos hz
    have hlen := checkF_len hz
    rw [hz, errV_zero] at hck
    clear hown hb1 hn1
    have HW2 := Lib.hid hW2
    have HB2 := Lib.hid hB2
    have HQ3 := Lib.hid q3
    have HB02 := Lib.hid hB02
    have HLT1 := Lib.hid hlt1
    have HCK := Lib.hid hck
    have HOWN2 := Lib.hid hown2
    have HZ := Lib.hid hz
    have HSO := Lib.hid hso
    have HLEN := Lib.hid hlen
    clear hW2 hB2 q3 hB02 hlt1 hck hown2 hz hso hlen
    go_upto_region 4 with (go_at_call 13; refine HCK.out.mono ?_; rintro e w3 ⟨rfl, hb3⟩)
    have s3 := hb3.block _ hsz1
    rw [HQ3.out] at s3
    have r0 : w3.cell? ⟨w1.heap.size, 0, none⟩ = some (.int .i64 bd) := by simp [World.cell?, s3]
    have r1 : w3.cell? ⟨w1.heap.size, 1, none⟩ = some (.slice A1 n1 c1) := by simp [World.cell?, s3]
    have hst := sortOwn_calls _ _ l w3 (HOWN2.out.keep hb3) (by have := HLEN.out; omega)
    have HST := Lib.hid hst
    have HB3 := Lib.hid hb3
    have HS3 := Lib.hid s3
    clear hst hb3 s3
    go_upto_region 5 with (go_at_call 44; refine HST.out.mono ?_; rintro e w4 ⟨rfl, hown4, hg4⟩)
    have hne : ∀ b, b < W0.heap.size ∨ w1.heap.size ≤ b → some b ≠ (Value.slice A1 n1 c1).ownBlock := fun b hb e => by have := HLT1.out b e.symm; omega
    have s4 := hg4.block w1.heap.size (by have := HB3.out.size; omega) (hne _ (.inr (Nat.le_refl _)))
    rw [HS3.out] at s4
    have k0 : w4.cell? ⟨w1.heap.size, 0, none⟩ = some (.int .i64 bd) := by simp [World.cell?, s4]
    have k1 : w4.cell? ⟨w1.heap.size, 1, none⟩ = some (.slice A1 n1 c1) := by simp [World.cell?, s4]
    have b3 : Below W0.heap.size W0 w3 := belowT HB02.out HB3.out
    have b4 : Below W0.heap.size w3 w4 := below_of_grown hg4 b3.size (fun r e => (HLT1.out r e).1)
    have b04 := b3.trans b4
    have t4 := b04.block (w.heap.size + 1) (by have := HSZ.out; omega)
    rw [HRB.out] at t4
    have m0 : w4.cell? ⟨w.heap.size + 1, 0, none⟩ = some (.int .i64 0) := by simp [World.cell?, t4]
    have m1 : w4.cell? ⟨w.heap.size + 1, 1, none⟩ = some (.slice none 0 0) := by simp [World.cell?, t4]
    have kf : ∀ j, w4.frozen? ⟨w.heap.size + 1, j, none⟩ = false := fun j => by simp [World.frozen?, t4]
    have bw := belowT HBW.out b04
    have HOWN4 := Lib.hid hown4
    have HG4 := Lib.hid hg4
    have HS4 := Lib.hid s4
    have B3 := Lib.hid b3
    have B4 := Lib.hid b4
    have B04 := Lib.hid b04
    have T4 := Lib.hid t4
    have BW := Lib.hid bw
    have HNE := Lib.hid hne
    clear hown4 hg4 s4 b3 b4 b04 t4 bw hne
    go_wp2_with fail
    have t1 := set_block (i := 0) T4.out (.int .i64 bd) #[.int .i64 bd, .slice none 0 0] rfl
    have t2 := set_block (i := 1) t1 (.slice A1 n1 c1) #[.int .i64 bd, .slice A1 n1 c1] rfl
    have gg := World.grownBy.trans (set_grown (i := 0) T4.out (.int .i64 bd)) (set_grown (i := 1) t1 (.slice A1 n1 c1))
    generalize (w4.setCell ⟨w.heap.size + 1, 0, none⟩ (.int .i64 bd)).setCell ⟨w.heap.size + 1, 1, none⟩ (.slice A1 n1 c1) = wf at t2 gg ⊢
    have e0 : wf.cell? ⟨w.heap.size + 1, 0, none⟩ = some (.int .i64 bd) := by simp [World.cell?, t2]
    have e1 : wf.cell? ⟨w.heap.size + 1, 1, none⟩ = some (.slice A1 n1 c1) := by simp [World.cell?, t2]
    refine bodyPost_ret (v := .agg #[.int .i64 bd, .slice A1 n1 c1]) (by simp [results, Tryd.results23, go_sem, e0, e1]) rfl ⟨_, rfl, ?_, ?_⟩
    · rw [HSO.out]; exact (HOWN4.out.kept gg (fun r e => by injection e with e; have := HSZ.out; omega)).mono (by have := HSZ.out; omega)
    · exact BW.out.trans (below_of_grown gg BW.out.size (fun g hg => by injection hg with hg; omega))
  · have hso : sortC bd l = l := if_neg hz
    obtain ⟨z, hzz⟩ : ∃ z, checkF bd l = z := ⟨_, rfl⟩
    rw [hzz] at hck hz
    rw [errV_ne hz] at hck
    clear hown hb1 hn1
    have HW2 := Lib.hid hW2
    have HB2 := Lib.hid hB2
    have HQ3 := Lib.hid q3
    have HB02 := Lib.hid hB02
    have HLT1 := Lib.hid hlt1
    have HCK := Lib.hid hck
    have HOWN2 := Lib.hid hown2
    have HZ := Lib.hid hz
    have HSO := Lib.hid hso
    have HZZ := Lib.hid hzz
    clear hW2 hB2 q3 hB02 hlt1 hck hown2 hz hso hzz
    go_upto_region 3 with (go_at_call 13; refine HCK.out.mono ?_; rintro e w3 ⟨rfl, hb3⟩)
    have s3 := hb3.block _ hsz1
    rw [HQ3.out] at s3
    have k0 : w3.cell? ⟨w1.heap.size, 0, none⟩ = some (.int .i64 bd) := by simp [World.cell?, s3]
    have k1 : w3.cell? ⟨w1.heap.size, 1, none⟩ = some (.slice A1 n1 c1) := by simp [World.cell?, s3]
    have b04 : Below W0.heap.size W0 w3 := belowT HB02.out hb3
    have t4 := b04.block (w.heap.size + 1) (by have := HSZ.out; omega)
    rw [HRB.out] at t4
    have m0 : w3.cell? ⟨w.heap.size + 1, 0, none⟩ = some (.int .i64 0) := by simp [World.cell?, t4]
    have m1 : w3.cell? ⟨w.heap.size + 1, 1, none⟩ = some (.slice none 0 0) := by simp [World.cell?, t4]
    have kf : ∀ j, w3.frozen? ⟨w.heap.size + 1, j, none⟩ = false := fun j => by simp [World.frozen?, t4]
    have bw := belowT HBW.out b04
    have hown4 := HOWN2.out.keep hb3
    have HOWN4 := Lib.hid hown4
    have HB3 := Lib.hid hb3
    have HS3 := Lib.hid s3
    have B04 := Lib.hid b04
    have T4 := Lib.hid t4
    have BW := Lib.hid bw
    clear hown4 hb3 s3 b04 t4 bw
    go_wp2_with fail
    have t1 := set_block (i := 0) T4.out (.int .i64 bd) #[.int .i64 bd, .slice none 0 0] rfl
    have t2 := set_block (i := 1) t1 (.slice A1 n1 c1) #[.int .i64 bd, .slice A1 n1 c1] rfl
    have gg := World.grownBy.trans (set_grown (i := 0) T4.out (.int .i64 bd)) (set_grown (i := 1) t1 (.slice A1 n1 c1))
    generalize (w3.setCell ⟨w.heap.size + 1, 0, none⟩ (.int .i64 bd)).setCell ⟨w.heap.size + 1, 1, none⟩ (.slice A1 n1 c1) = wf at t2 gg ⊢
    have e0 : wf.cell? ⟨w.heap.size + 1, 0, none⟩ = some (.int .i64 bd) := by simp [World.cell?, t2]
    have e1 : wf.cell? ⟨w.heap.size + 1, 1, none⟩ = some (.slice A1 n1 c1) := by simp [World.cell?, t2]
    refine bodyPost_ret (v := .agg #[.int .i64 bd, .slice A1 n1 c1]) (by simp [results, Tryd.results23, go_sem, e0, e1]) rfl ⟨_, rfl, ?_, ?_⟩
    · rw [HSO.out]; exact (HOWN4.out.kept gg (fun r e => by injection e with e; have := HSZ.out; omega)).mono (by have := HSZ.out; omega)
    · exact BW.out.trans (below_of_grown gg BW.out.size (fun g hg => by injection hg with hg; omega))
end Go.Proofs.YticdfbhbbapbdaaDoor
