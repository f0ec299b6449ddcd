/- stratagemref30.Sort. -/
import Derived.Test.YticdfbhbbapbdaaDoorRReduce
import Derived.Test.YticdfbhbbapbdaaDoorLess
namespace Go.Proofs.YticdfbhbbapbdaaDoor
open Go.RowKit

def ltNB (x y : Nogood) : Bool := decide (x.2 < y.2) || (decide (x.2 = y.2) && lessL x.1 y.1)
theorem ltNB_iff (x y : Nogood) : ltNB x y = true ↔ LtN x y := by
  unfold ltNB LtN
  simp [lessL_iff]
def ltAt (x : Nogood) (acc : List Nogood) : Nat → Bool
  | 0 => false
  | p + 1 => match acc[p]? with
    | some y => ltNB x y
    | none => false
def placeN (x : Nogood) (acc : List Nogood) : Nat → Nat
  | 0 => 0
  | p + 1 => if ltAt x acc (p + 1) then placeN x acc p else p + 1
theorem placeN_step (x : Nogood) (acc : List Nogood) (p : Nat) : placeN x acc p = if ltAt x acc p then placeN x acc (p - 1) else p := by
  cases p with
  | zero => simp [placeN, ltAt]
  | succ p => rw [placeN]; simp
theorem ltAt_pos {x y : Nogood} {acc : List Nogood} {p : Nat} (hp : 0 < p) (h : acc[p - 1]? = some y) : ltAt x acc p = ltNB x y := by
  cases p with
  | zero => omega
  | succ p => simp at h; simp [ltAt, h]
def insN (x : Nogood) (acc : List Nogood) : List Nogood := acc.take (placeN x acc acc.length) ++ [x] ++ acc.drop (placeN x acc acc.length)
def rsortL : List Nogood → List Nogood → List Nogood
  | acc, [] => acc
  | acc, x :: r => rsortL (insN x acc) r
theorem placeN_spec (x : Nogood) (acc : List Nogood) : ∀ p, p ≤ acc.length → placeN x acc p ≤ p ∧ (∀ j y, placeN x acc p ≤ j → j < p → acc[j]? = some y → LtN x y) ∧ (∀ q y, placeN x acc p = q + 1 → acc[q]? = some y → ¬ LtN x y) := by
  intro p
  induction p with
  | zero => intro _; simp [placeN]
  | succ p ih =>
    intro hp
    obtain ⟨i1, i2, i3⟩ := ih (by omega)
    have hy : acc[p]? = some acc[p] := List.getElem?_eq_getElem (by omega)
    have hat : ltAt x acc (p + 1) = ltNB x acc[p] := ltAt_pos (by omega) (by simp)
    rw [placeN]
    split
    · rename_i h
      rw [hat] at h
      refine ⟨by omega, fun j y h1 h2 h3 => ?_, i3⟩
      by_cases hj : j = p
      · subst hj
        rw [hy] at h3
        injection h3 with h3
        rw [← h3]
        exact (ltNB_iff _ _).1 h
      · exact i2 j y h1 (by omega) h3
    · rename_i h
      rw [hat] at h
      refine ⟨by omega, fun j y h1 h2 _ => by omega, fun q y h1 h2 h3 => ?_⟩
      have : q = p := by omega
      subst this
      rw [hy] at h2
      injection h2 with h2
      rw [← h2] at h3
      exact h ((ltNB_iff _ _).2 h3)
theorem insN_perm (x : Nogood) (acc : List Nogood) : (insN x acc).Perm (x :: acc) := by
  unfold insN
  have := List.perm_middle (a := x) (l₁ := acc.take (placeN x acc acc.length)) (l₂ := acc.drop (placeN x acc acc.length))
  rw [List.take_append_drop] at this
  simpa using this
theorem insN_length (x : Nogood) (acc : List Nogood) : (insN x acc).length = acc.length + 1 := by simpa using (insN_perm x acc).length_eq
theorem insN_sorted (x : Nogood) (acc : List Nogood) (hs : acc.Pairwise (fun x y => LtN x y ∨ x = y)) : (insN x acc).Pairwise (fun x y => LtN x y ∨ x = y) := by
  obtain ⟨h1, h2, h3⟩ := placeN_spec x acc acc.length (Nat.le_refl _)
  unfold insN
  generalize placeN x acc acc.length = p at h1 h2 h3
  have hs2 := hs
  rw [← List.take_append_drop p acc] at hs2
  obtain ⟨t1, t2, t3⟩ := List.pairwise_append.1 hs2
  have ha : ∀ a ∈ acc.take p, LtN a x ∨ a = x := by
    intro a ha
    obtain ⟨i, hi, e⟩ := List.mem_iff_getElem.1 ha
    simp at hi
    obtain ⟨q, rfl⟩ : ∃ q, p = q + 1 := ⟨p - 1, by omega⟩
    have hy : acc[q]? = some acc[q] := List.getElem?_eq_getElem (by omega)
    have hyx := (leN_iff acc[q] x).1 (h3 q _ rfl hy)
    rw [List.getElem_take] at e
    by_cases hiq : i = q
    · subst hiq; rw [← e]; exact hyx
    · have := List.pairwise_iff_getElem.1 hs i q (by omega) (by omega) (by omega)
      rw [e] at this
      exact leN_trans this hyx
  have hb : ∀ b ∈ acc.drop p, LtN x b ∨ x = b := by
    intro b hb
    obtain ⟨i, hi, e⟩ := List.mem_iff_getElem.1 hb
    simp at hi
    rw [List.getElem_drop] at e
    exact .inl (h2 (p + i) b (by omega) (by omega) (by rw [← e]; exact List.getElem?_eq_getElem (by omega)))
  rw [List.append_assoc]
  refine List.pairwise_append.2 ⟨t1, List.pairwise_append.2 ⟨by simp, t2, fun a h b hb' => ?_⟩, fun a h b hb' => ?_⟩
  · simp at h; subst h; exact hb b hb'
  · rcases List.mem_append.1 hb' with h' | h'
    · simp at h'; subst h'; exact ha a h
    · exact t3 a h b h'
theorem rsortL_spec (r : List Nogood) : ∀ acc, acc.Pairwise (fun x y => LtN x y ∨ x = y) → (rsortL acc r).Pairwise (fun x y => LtN x y ∨ x = y) ∧ (rsortL acc r).Perm (acc ++ r) := by
  induction r with
  | nil => intro acc h; exact ⟨h, by simp [rsortL]⟩
  | cons x r ih =>
    intro acc h
    obtain ⟨a, b⟩ := ih _ (insN_sorted x acc h)
    refine ⟨a, b.trans ?_⟩
    exact ((insN_perm x acc).append_right r).trans (by simpa using (List.perm_middle (a := x) (l₁ := acc) (l₂ := r)).symm)
theorem rsortL_eq (l : List Nogood) : rsortL [] l = sortN l := by
  obtain ⟨a, b⟩ := rsortL_spec l [] List.Pairwise.nil
  exact sortN_unique (by simpa using b) a

/-- the m nogoods that lie at A in w1, their facts in w -/
def SrcN (w w1 : World) (A : Option Addr) (m : Nat) (l : List Nogood) : Prop :=
  ∃ its : List Item, its.map (·.2) = l ∧ (∀ x ∈ its, FactsAt w (.slice x.1.1 x.1.2.1 x.1.2.2) x.2.1) ∧ Reads w1 w1.heap.size 2 A m (itemCells its)
theorem itemCells_take (l : List Item) : ∀ p, itemCells (l.take p) = (itemCells l).take (p * 2) := by
  induction l with
  | nil => intro p; simp [itemCells]
  | cons x r ih =>
    intro p
    cases p with
    | zero => simp [itemCells]
    | succ p => rw [List.take_succ_cons, itemCells, itemCells, ih, show (p + 1) * 2 = p * 2 + 1 + 1 from by omega, List.take_succ_cons, List.take_succ_cons]
theorem itemCells_drop (l : List Item) : ∀ p, itemCells (l.drop p) = (itemCells l).drop (p * 2) := by
  induction l with
  | nil => intro p; simp [itemCells]
  | cons x r ih =>
    intro p
    cases p with
    | zero => simp [itemCells]
    | succ p => rw [List.drop_succ_cons, itemCells, ih, show (p + 1) * 2 = p * 2 + 1 + 1 from by omega, List.drop_succ_cons, List.drop_succ_cons]
theorem OwnR.slot {w0 w : World} {base : Nat} {v : Value} {l : List Nogood} (h : OwnR w0 w base v l) : (v = .slice none 0 0 ∧ l = []) ∨ ∃ g c, v = .slice (some ⟨g, 0, none⟩) l.length c ∧ l.length ≤ c ∧ c ≤ maxLen := by
  obtain ⟨its, _, h, _⟩ := h
  rcases h.2 with ⟨rfl, h0⟩ | ⟨g, cap, cur, rfl, _, _, hnc, hmx, _, _⟩
  · exact .inl ⟨rfl, List.length_eq_zero_iff.1 h0⟩
  · exact .inr ⟨g, cap, rfl, hnc, hmx⟩
theorem OwnR.empty {w0 w : World} {base G : Nat} (hG : w.heap[G]? = some (.cells #[] 45 (0, 0))) (hb : base ≤ G) : OwnR w0 w base (.slice (some ⟨G, 0, none⟩) 0 0) [] :=
  ⟨[], rfl, ⟨rfl, .inr ⟨G, 0, #[], rfl, hb, hG, Nat.le_refl _, by simp [maxLen], rfl, rfl⟩⟩, fun x hx => by cases hx⟩
theorem OwnR.reads {w0 w : World} {base : Nat} {A : Option Addr} {n c : Nat} {l : List Nogood} (h : OwnR w0 w base (.slice A n c) l) : n = l.length ∧ SrcN w0 w A n l := by
  obtain ⟨A', c', hv⟩ := h.form
  obtain ⟨its, h1, h2, h3⟩ := h
  injection hv with a1 a2 a3
  subst a1 a2 a3
  exact ⟨rfl, its, h1, h3, Reads.of_own h2⟩
theorem SrcN.take {w w1 : World} {A : Option Addr} {n : Nat} {l : List Nogood} (h : SrcN w w1 A n l) {p : Nat} (hp : p ≤ n) (hn : n = l.length) : SrcN w w1 A p (l.take p) := by
  obtain ⟨its, h1, h2, h3, h4⟩ := h
  have hl : its.length = n := by rw [hn, ← h1]; simp
  refine ⟨its.take p, by rw [List.map_take, h1], fun x hx => h2 x (List.mem_of_mem_take hx), by rw [itemCells_length, List.length_take]; omega, fun hp0 => ?_⟩
  obtain ⟨ad, e, hb, hc⟩ := h4 (by omega)
  refine ⟨ad, e, hb, fun j u hu => hc j u ?_⟩
  rw [itemCells_take, List.getElem?_take] at hu
  split at hu
  · exact hu
  · cases hu
theorem SrcN.drop {w w1 : World} {g n : Nat} {A' : Option Addr} {l : List Nogood} (h : SrcN w w1 (some ⟨g, 0, none⟩) n l) {p : Nat} (hp : p ≤ n) (hn : n = l.length) (hA : n - p = 0 ∨ A' = some ⟨g, p * 2, none⟩) : SrcN w w1 A' (n - p) (l.drop p) := by
  obtain ⟨its, h1, h2, h3, h4⟩ := h
  have hl : its.length = n := by rw [hn, ← h1]; simp
  refine ⟨its.drop p, by rw [List.map_drop, h1], fun x hx => h2 x (List.mem_of_mem_drop hx), by rw [itemCells_length, List.length_drop]; omega, fun hp0 => ?_⟩
  obtain ⟨ad, e, hb, hc⟩ := h4 (by omega)
  injection e with e
  subst e
  refine ⟨⟨g, p * 2, none⟩, hA.resolve_left (by omega), hb, fun j u hu => ?_⟩
  rw [itemCells_drop, List.getElem?_drop] at hu
  have := hc _ u hu
  rw [add_plain] at this ⊢
  simpa using this
theorem lt_of_heap {w : World} {g : Nat} {o : Obj} (h : w.heap[g]? = some o) : g < w.heap.size := by
  rcases Nat.lt_or_ge g w.heap.size with h' | h'
  · exact h'
  · rw [Array.getElem?_eq_none h'] at h; cases h
theorem SrcN.one {w w1 : World} {M : Nat} {xA : Option Addr} {xn xc : Nat} {x : Nogood} (hM : w1.heap[M]? = some (.cells #[.slice xA xn xc, .int .i64 x.2] 45 (0, 0))) (hx : FactsAt w (.slice xA xn xc) x.1) : SrcN w w1 (some ⟨M, 0, none⟩) 1 [x] :=
  ⟨[((xA, xn, xc), x)], rfl, fun z hz => by simp at hz; subst hz; exact hx, rfl, fun _ => ⟨_, rfl, lt_of_heap hM, cells_at hM 0 _ (fun j u hu => by simpa [itemCells] using hu)⟩⟩

/-- an append of nogoods to a row of the call's own, in a region that draws -/
theorem step_append_R {ops : Array Oper} {o : Oper} {a : Act} {K : Act → World → Prop} {Q : Exit → Act → World → Prop} {E : Prop} (hgd : o.guard = none) (s y : Operand)
    (ho : o.op = .call { callee := .builtin .append, args := #[s, y], argTypes := #[23, 23] })
    {w w1 : World} {base : Nat} {v : Value} {l m : List Nogood} {A : Option Addr} {mm : Nat} (c : Nat) (hs : a.eval s = v) (hy : a.eval y = .slice A mm c) (hown : OwnR w w1 base v l) (hsrc : SrcN w w1 A mm m)
    (hlen : (l.length + mm) * 32 ≤ 140737488355328) (hbase : base ≤ w1.heap.size)
    (h : ∀ v' w', OwnR w w' base v' (l ++ m) → w1.grownBy w' v.ownBlock → K (a.put o.dst v') w') :
    if Region.wanted o (yielded ops a.tmps) = true then Oper.wp Tryd.prog o a w1 K Q else E := by
  obtain ⟨i0, hi0, hz0, hz1, hz2⟩ := info_parts nogoodInfo
  obtain ⟨its, h1, h2, h3⟩ := hown
  obtain ⟨jts, j1, j2, j3⟩ := hsrc
  have hm : mm = m.length := by have := j3.1; rw [itemCells_length] at this; rw [← j1]; simp; omega
  refine step_append_any _ hgd s y _ ho base 45 i0 _ 2 32 Tryd.underlying23 hi0 hz0 hz1 hz2 rfl (by omega) v l.length (itemCells its) hs h2 _ _ mm c (itemCells jts) hy j3 (itemCells_one _) (by simp only [maxLen]; omega) hlen hbase ?_
  intro v' w' g1 g2 _
  refine h v' w' ⟨its ++ jts, by simp [h1, j1], ?_, fun z hz => ?_⟩ g2
  · rw [itemCells_append, List.length_append, ← hm]; exact g1
  · rcases List.mem_append.1 hz with hz | hz
    · exact h3 z hz
    · exact j2 z hz
theorem bsize {w w' : World} (h : Below w.heap.size w w') : w.heap.size ≤ w'.heap.size := h.size
theorem two0 (W : World) (o1 o2 : Obj) : ((W.alloc o1).alloc o2).heap[W.heap.size]? = some o1 := by
  rw [(belowA (Below.refl _ _) _).block _ (by simp)]
  exact heap_alloc_new W o1
theorem two1 (W : World) (o1 o2 : Obj) : ((W.alloc o1).alloc o2).heap[W.heap.size + 1]? = some o2 := by
  have := heap_alloc_new (W.alloc o1) o2
  simpa using this
theorem grown_other {w w' : World} {row : Option Nat} (hg : w.grownBy w' row) (g : Nat) (hne : some g ≠ row) : ∀ o, w.heap[g]? = some o → w'.heap[g]? = some o := fun _ h => (hg.block g (lt_of_heap h) hne).trans h


set_option maxHeartbeats 8000000 in
set_option maxRecDepth 100000 in
theorem rsort_calls (bd : Int) (v : Value) (l : List Nogood) (w : World) (hv : NogoodsAt w v l) :
    Calls Tryd.prog 24 #[.agg #[.int .i64 bd, v]] w fun e w' => ∃ v', e = .returned (.agg #[.int .i64 bd, v']) ∧ NogoodsAt w' v' (sortC bd l) ∧ Below w.heap.size w w' := by
  obtain ⟨A, n, c, rfl, hn, hm⟩ := hv.form
  have hroom : n * 32 ≤ 140737488355328 := by obtain ⟨_, _, hv', hl, _⟩ := id hv; injection hv' with _ h2 _; omega
  obtain ⟨W0, hW0⟩ : ∃ W0, W0 = (w.alloc (.cells #[.int .i64 bd, .slice A n c] 25)).alloc (.cells #[.int .i64 0, .slice none 0 0] 25) := ⟨_, rfl⟩
  have hBW : Below w.heap.size w W0 := by rw [hW0]; exact belowA (belowA (Below.refl _ _) _) _
  have p0 : W0.cell? ⟨w.heap.size, 0, none⟩ = some (.int .i64 bd) := by rw [hW0]; simp
  have p1 : W0.cell? ⟨w.heap.size, 1, none⟩ = some (.slice A n c) := by rw [hW0]; simp
  have hrb : W0.heap[w.heap.size + 1]? = some (.cells #[.int .i64 0, .slice none 0 0] 25 (0, 0)) := by
    rw [hW0]
    have := heap_alloc_new (w.alloc (.cells #[.int .i64 bd, .slice A n c] 25)) (.cells #[.int .i64 0, .slice none 0 0] 25)
    simpa using this
  have hsz : w.heap.size + 2 = W0.heap.size := by rw [hW0]; simp
  have hv0 := hv.keep hBW
  have hck := rcheck_calls bd _ l _ hv0
  by_cases hz : checkF bd l = 0
  · have hso : sortC bd l = sortN l := if_pos hz
    obtain ⟨D, hD⟩ : ∃ D, D = rsortL [] l := ⟨_, rfl⟩
    have hDn : D = sortN l := by rw [hD, rsortL_eq]
    rw [hz] at hck
    rw [hso, ← hDn]
    have HV := Lib.hid hv
    have HN := Lib.hid hn
    have HW0 := Lib.hid hW0
    have HBW := Lib.hid hBW
    have HRB := Lib.hid hrb
    have HV0 := Lib.hid hv0
    have HSZ := Lib.hid hsz
    have HCK := Lib.hid hck
    have HSO := Lib.hid hso
    have HD := Lib.hid hD
    have HDN := Lib.hid hDn
    have HZ := Lib.hid hz
    clear hv hn hW0 hBW hrb hv0 hsz hck hso hD hDn hz
    go_enter Tryd.func24, Tryd.ntmps24
    go_upto_region 1 with fail
    rw [← HW0.out]
    go_upto_region 3 with (go_at_call 14; refine HCK.out.mono ?_; rintro e w1 ⟨rfl, hb1⟩; have q0 := kept hb1 p0; have q1 := kept hb1 p1; have HB1 := Lib.hid hb1; clear hb1)
    go_wp2_with fail
    go_loopg [3, 14] n (fun gh ov i wr => ∃ (k : Nat) (acc : List Nogood), k ≤ n ∧ gh = n - k ∧ i = .int .i64 k ∧ Below w1.heap.size w1 wr ∧ OwnR w wr w1.heap.size ov acc ∧ acc.length = k ∧ (k = 0 → ov = .slice none 0 0) ∧ D = rsortL acc (l.drop k))
    case atStart => exact ⟨0, [], Nat.zero_le _, by omega, rfl, Below.refl _ _, OwnR.nil_ _ _ _, rfl, fun _ => rfl, HD.out⟩
    case round =>
      obtain ⟨k, acc, hk, hg, rfl, hB, hown, hal, hnz, hF⟩ := hrel
      obtain ⟨wo, rfl⟩ : ∃ wo : World, wo = wr := ⟨_, rfl⟩
      have hBw : Below w.heap.size w wo := belowT HBW.out (belowT HB1.out hB)
      have u0 := kept hB q0
      have u1 := kept hB q1
      obtain ⟨oA, oc, rfl⟩ := hown.form
      rw [hal] at hown hnz
      by_cases hlt : k < n
      · obtain ⟨bb, off, xA, xn, xc, x, xd, rfl, c0, hxn, hxm, hxv, c1, hx, hd⟩ := HV.out.at hlt
        have d0 := kept hBw c0
        have d1 := kept hBw c1
        have hbr : bb < wo.heap.size := lt_of_cell d0
        obtain ⟨PD, hPD⟩ : ∃ PD, PD = placeN (x, xd) acc k := ⟨_, rfl⟩
        have hst : D = rsortL (acc.take PD ++ [(x, xd)] ++ acc.drop PD) (l.drop (k + 1)) := by rw [hF, hd, rsortL, insN, hal, hPD]
        have hW5b : Below wo.heap.size wo (wo.alloc (.cells #[.slice xA xn xc, .int .i64 xd] 45)) := belowA (Below.refl _ _) _
        have r0 : (wo.alloc (.cells #[.slice xA xn xc, .int .i64 xd] 45)).cell? ⟨wo.heap.size, 0, none⟩ = some (.slice xA xn xc) := by simp
        have r1 : (wo.alloc (.cells #[.slice xA xn xc, .int .i64 xd] 45)).cell? ⟨wo.heap.size, 1, none⟩ = some (.int .i64 xd) := by simp
        have HG := Lib.hid hg
        have HB := Lib.hid hB
        have HOWN := Lib.hid hown
        have HF := Lib.hid hF
        have HBw := Lib.hid hBw
        have C0 := Lib.hid c0
        have C1 := Lib.hid c1
        have HXN := Lib.hid hxn
        have HXV := Lib.hid hxv
        have HX := Lib.hid hx
        have HDD := Lib.hid hd
        have HPD := Lib.hid hPD
        have HST := Lib.hid hst
        have HAL := Lib.hid hal
        have HNZ := Lib.hid hnz
        clear hg hB hown hF hBw c0 c1 hxn hxv hx hd hPD hst hal hnz
        rw [HAL.out]
        go_upto_region 7 with fail
        generalize hW5 : wo.alloc (.cells #[.slice xA xn xc, .int .i64 xd] 45) = W5 at hW5b r0 r1 ⊢
        have v1 := kept hW5b u1
        have hB5 := belowT HBw.out hW5b
        have HW5B := Lib.hid hW5b
        have HB5 := Lib.hid hB5
        have HW5 := Lib.hid hW5
        clear hW5b hB5 hW5
        go_wp2_with fail
        go_loopg [6] k (fun g2 av w2 => ∃ (p : Nat), p ≤ k ∧ g2 = p ∧ av = .int .i64 p ∧ Below W5.heap.size W5 w2 ∧ PD = placeN (x, xd) acc p)
        case atStart => exact ⟨k, Nat.le_refl _, rfl, rfl, Below.refl _ _, HPD.out⟩
        case round =>
          obtain ⟨p, hp, hg2, rfl, hB2, hF2⟩ := hrel
          have t0 := kept hB2 r0
          have t1 := kept hB2 r1
          have hst2 : PD = if ltAt (x, xd) acc p then placeN (x, xd) acc (p - 1) else p := by rw [hF2, placeN_step]
          have hold : OwnR w wr w1.heap.size (.slice oA k oc) acc := HOWN.out.keep (belowT HW5B.out hB2)
          have hnow : NogoodsAt wr (.slice oA k oc) acc := hold.nogoods (belowT HB5.out hB2) (by have := HAL.out; omega)
          obtain ⟨t, ht⟩ : ∃ t, ltAt (x, xd) acc p = t := ⟨_, rfl⟩
          rw [ht] at hst2
          have HF2 := Lib.hid hF2
          have HST2 := Lib.hid hst2
          have HOLD := Lib.hid hold
          have HB2 := Lib.hid hB2
          have HG2 := Lib.hid hg2
          clear hF2 hst2 hold hB2 hg2
          go_upto_region 8 with fail
          go_cut [54] (fun z wx => z = .bool t ∧ Below wr.heap.size wr wx)
          case first =>
            by_cases hp0 : p = 0
            · subst hp0
              have hfin : t = false := by rw [← ht]; rfl
              subst hfin
              have HT := Lib.hid ht
              have HNOW := Lib.hid hnow
              clear ht hnow
              refine wp_region_quiet_lit (by kernel_rfl) (by kernel_rfl) ?_
              repeat (any_goals (first | go_big_quiet_step (fail) | quiet_step (fail) | (refine wpQuiet_step (fun K hK => ?_); go_simp; split <;> (refine hK _ ?_; clear hK K))))
              all_goals (refine wpQuiet_nil ?_; intro _ hw'; obtain ⟨nq, hw''⟩ := hw'; subst hw'')
              all_goals (go_wp2_with fail; go_meet; exact ⟨rfl, below_drewN (Below.refl _ _) _⟩)
            · obtain ⟨b2, off2, yA, yn, yc, y, yd, rfl, e0, hyn, hym, hyv, e1, hy, hdy⟩ := hnow.at (k := p - 1) (by omega)
              have hlt3 : t = ltNB (x, xd) (y, yd) := by rw [← ht, ltAt_pos (by omega) hy]
              have z1 : ((p : Int) - 1).toNat = p - 1 := by omega
              have z2 : IntKind.i64.wrap ((p : Int) - 1) = (p : Int) - 1 := by rw [IntKind.wrap_i64]; omega
              have z3 : 0 ≤ (p : Int) - 1 := by omega
              have z4 : 1 ≤ (p : Int) := by omega
              have z5 : (p : Int) - 1 < k := by omega
              have dd : decide ((0 : Int) < p) = true := by simp; omega
              have dd2 : decide (0 < p) = true := by simp; omega
              have dd3 : decide ((p : Int) > 0) = true := by simp; omega
              by_cases h1 : xd < yd
              · have hfin : t = true := by rw [hlt3]; simp [ltNB, h1]
                subst hfin
                have h1' : decide (xd < yd) = true := by simpa using h1
                have HT := Lib.hid ht
                have HNOW := Lib.hid hnow
                have HLT3 := Lib.hid hlt3
                have HYN := Lib.hid hyn
                have HYV := Lib.hid hyv
                have HY := Lib.hid hy
                have HDY := Lib.hid hdy
                clear ht hnow hlt3 hyn hyv hy hdy
                refine wp_region_quiet_lit (by kernel_rfl) (by kernel_rfl) ?_
                repeat (any_goals (first | go_big_quiet_step (fail) | quiet_step (fail) | (refine wpQuiet_step (fun K hK => ?_); go_simp; split <;> (refine hK _ ?_; clear hK K))))
                all_goals (refine wpQuiet_nil ?_; intro _ hw'; obtain ⟨nq, hw''⟩ := hw'; subst hw'')
                all_goals (go_wp2_with fail; go_meet; exact ⟨rfl, below_drewN (Below.refl _ _) _⟩)
              · have h1' : decide (xd < yd) = false := by simpa using h1
                by_cases h2 : xd = yd
                · subst h2
                  have hfin : t = lessL x y := by rw [hlt3]; simp [ltNB]
                  have hle := less_calls _ _ x y wr.drew ((HXV.out.keep (belowT HB5.out HB2.out)).keep (Below.refl _ _).drew) (hyv.keep (Below.refl _ _).drew)
                  rw [← hfin] at hle
                  have HT := Lib.hid ht
                  have HNOW := Lib.hid hnow
                  have HLT3 := Lib.hid hlt3
                  have HYN := Lib.hid hyn
                  have HYV := Lib.hid hyv
                  have HY := Lib.hid hy
                  have HDY := Lib.hid hdy
                  have HFIN := Lib.hid hfin
                  have HLE := Lib.hid hle
                  have H1 := Lib.hid h1
                  clear ht hnow hlt3 hyn hyv hy hdy hfin hle h1
                  go_region_held3 (fun w' => w'.cell? ⟨wo.heap.size, 0, none⟩ = some (.slice xA xn xc) ∧ w'.cell? ⟨wo.heap.size, 1, none⟩ = some (.int .i64 xd) ∧ w'.cell? ⟨b2, off2 + (p - 1) * 2, none⟩ = some (.slice yA yn yc) ∧ w'.cell? ⟨b2, off2 + (p - 1) * 2 + 1, none⟩ = some (.int .i64 xd))
                    (first | exact ⟨s0, s1, s2, s3⟩ | exact ⟨t0, t1, e0, e1⟩)
                    (first
                      | (go_at_call 49; refine HLE.out.mono ?_; rintro e w7 ⟨rfl, hb7⟩; have s0 := kept hb7 t0; have s1 := kept hb7 t1; have s2 := kept hb7 e0; have s3 := kept hb7 e1; have HB7 : Hid (Below wr.heap.size wr w7) := belowT ((Below.refl _ _).drew) hb7; clear hb7)
                      | fail)
                  all_goals (go_wp2_with fail; go_meet; exact ⟨rfl, HB7.out⟩)
                · have hfin : t = false := by rw [hlt3]; simp [ltNB, h1, h2]
                  subst hfin
                  have h2' : (xd == yd) = false := by simpa using h2
                  have HT := Lib.hid ht
                  have HNOW := Lib.hid hnow
                  have HLT3 := Lib.hid hlt3
                  have HYN := Lib.hid hyn
                  have HYV := Lib.hid hyv
                  have HY := Lib.hid hy
                  have HDY := Lib.hid hdy
                  clear ht hnow hlt3 hyn hyv hy hdy
                  refine wp_region_quiet_lit (by kernel_rfl) (by kernel_rfl) ?_
                  repeat (any_goals (first | go_big_quiet_step (fail) | quiet_step (fail) | (refine wpQuiet_step (fun K hK => ?_); go_simp; split <;> (refine hK _ ?_; clear hK K))))
                  all_goals (refine wpQuiet_nil ?_; intro _ hw'; obtain ⟨nq, hw''⟩ := hw'; subst hw'')
                  all_goals (go_wp2_with fail; go_meet; exact ⟨rfl, below_drewN (Below.refl _ _) _⟩)
          case rest =>
            obtain ⟨rfl, hB7⟩ := hcut
            have hB57 := belowT HB2.out hB7
            clear hnow
            cases t
            · have hst3 : D = rsortL (acc.take p ++ [(x, xd)] ++ acc.drop p) (l.drop (k + 1)) := by rw [HST.out, HST2.out]; simp
              have n0 := kept hB57 r0
              have n1 := kept hB57 r1
              have hold' := HOLD.out.keep hB7
              have hs1 : w1.heap.size ≤ wc.heap.size := by have := (belowT HB.out (belowT HW5B.out hB57)).size; omega
              have hs1' := hs1
              rcases hold'.slot with ⟨hv0, hnil⟩ | ⟨g, cc, hv0, hcc, hmx⟩
              · injection hv0 with a1 a2 a3
                subst a1 a2 a3
                obtain rfl : p = 0 := by omega
                have hsrc1 : ∀ W, Below wc.heap.size wc W → SrcN w W none 0 (acc.take 0) := fun W _ => ⟨[], rfl, fun x hx => (by cases hx), Reads.none_⟩
                have hsrc2 : ∀ W, Below wc.heap.size wc W → SrcN w W none (0 - 0) (acc.drop 0) := fun W _ => ⟨[], by rw [hnil]; rfl, fun x hx => (by cases hx), Reads.none_⟩
                have hgE0 := heap_alloc_new wc (.cells #[] 45)
                have hgEN0 := two0 wc (.cells #[] 45) (.cells #[.slice xA xn xc, .int .i64 xd] 45)
                have hgEN1 := two1 wc (.cells #[] 45) (.cells #[.slice xA xn xc, .int .i64 xd] 45)
                have hgNE0 := two0 wc (.cells #[.slice xA xn xc, .int .i64 xd] 45) (.cells #[] 45)
                have hgNE1 := two1 wc (.cells #[.slice xA xn xc, .int .i64 xd] 45) (.cells #[] 45)
                have hL1 : (([] : List Nogood).length + 0) * 32 ≤ 140737488355328 := by rw [List.length_nil]; omega
                have hL2 : ((([] : List Nogood) ++ acc.take 0).length + 1) * 32 ≤ 140737488355328 := by rw [List.nil_append, List.length_take, HAL.out]; omega
                have hL3 : (((([] : List Nogood) ++ acc.take 0) ++ [(x, xd)]).length + (0 - 0)) * 32 ≤ 140737488355328 := by rw [List.length_append, List.nil_append, List.length_take, HAL.out, List.length_singleton]; omega
                have HST3 := Lib.hid hst3
                have HOLD' := Lib.hid hold'
                have HB7 := Lib.hid hB7
                have HB57 := Lib.hid hB57
                have HT := Lib.hid ht
                have GE0 := Lib.hid hgE0
                have GEN0 := Lib.hid hgEN0
                have GEN1 := Lib.hid hgEN1
                have GNE0 := Lib.hid hgNE0
                have GNE1 := Lib.hid hgNE1
                have HL1 := Lib.hid hL1
                have HL2 := Lib.hid hL2
                have HL3 := Lib.hid hL3
                have SRC1 := Lib.hid hsrc1
                have SRC2 := Lib.hid hsrc2
                clear hst3 hold' hB7 hB57 ht hgE0 hgEN0 hgEN1 hgNE0 hgNE1 hL1 hL2 hL3 hsrc1 hsrc2
                go_upto_region 10 with fail
                go_region_held3 (fun w' => w'.cell? ⟨wo.heap.size, 0, none⟩ = some (.slice xA xn xc) ∧ w'.cell? ⟨wo.heap.size, 1, none⟩ = some (.int .i64 xd))
                  (refine ⟨?_, ?_⟩ <;> first | exact n0 | exact n1 | exact s0 | exact s1 | (refine kept ?_ n0; (repeat' first | exact Below.refl _ _ | refine Below.drew ?_ | refine belowA ?_ _); done) | (refine kept ?_ n1; (repeat' first | exact Below.refl _ _ | refine Below.drew ?_ | refine belowA ?_ _); done) | (refine kept ?_ s0; (repeat' first | exact Below.refl _ _ | refine Below.drew ?_ | refine belowA ?_ _); done) | (refine kept ?_ s1; (repeat' first | exact Below.refl _ _ | refine Below.drew ?_ | refine belowA ?_ _); done))
                  (first
                    | (refine step_append_R rfl (.tmp 57) (.tmp 60) rfl (w := w) (base := wc.heap.size) (v := .slice (some ⟨wc.heap.size, 0, none⟩) 0 0) (l := []) (m := acc.take 0) (A := none) (mm := 0) 0 rfl rfl (OwnR.empty (by first | exact GE0.out | exact GEN0.out) (Nat.le_refl _)) (SRC1.out _ (by repeat' first | exact Below.refl _ _ | refine Below.drew ?_ | refine belowA ?_ _)) HL1.out (bsize (by repeat' first | exact Below.refl _ _ | refine Below.drew ?_ | refine belowA ?_ _)) ?_; intro v6 w6 ho6 hg6; have HB6 : Hid (Below wc.heap.size wc w6) := Below.trans (by repeat' first | exact Below.refl _ _ | refine Below.drew ?_ | refine belowA ?_ _) (below_of_grown hg6 (bsize (by repeat' first | exact Below.refl _ _ | refine Below.drew ?_ | refine belowA ?_ _)) (fun r e => (by have e' : some wc.heap.size = some r := e; injection e' with e'; omega))); have HM6 := Lib.hid (grown_other hg6 (wc.heap.size + 1) (fun e => (by have e' : some (wc.heap.size + 1) = some wc.heap.size := e; injection e' with e'; omega))); have HO6 := Lib.hid ho6; have s0 := kept HB6.out n0; have s1 := kept HB6.out n1; clear ho6 hg6)
                    | (refine step_append_R rfl (.tmp 57) (.tmp 60) rfl (w := w) (base := wc.heap.size) (v := .slice (some ⟨wc.heap.size + 1, 0, none⟩) 0 0) (l := []) (m := acc.take 0) (A := none) (mm := 0) 0 rfl rfl (OwnR.empty (by exact GNE1.out) (Nat.le_succ _)) (SRC1.out _ (by repeat' first | exact Below.refl _ _ | refine Below.drew ?_ | refine belowA ?_ _)) HL1.out (bsize (by repeat' first | exact Below.refl _ _ | refine Below.drew ?_ | refine belowA ?_ _)) ?_; intro v6 w6 ho6 hg6; have HB6 : Hid (Below wc.heap.size wc w6) := Below.trans (by repeat' first | exact Below.refl _ _ | refine Below.drew ?_ | refine belowA ?_ _) (below_of_grown hg6 (bsize (by repeat' first | exact Below.refl _ _ | refine Below.drew ?_ | refine belowA ?_ _)) (fun r e => (by have e' : some (wc.heap.size + 1) = some r := e; injection e' with e'; omega))); have HM6 := Lib.hid (grown_other hg6 wc.heap.size (fun e => (by have e' : some wc.heap.size = some (wc.heap.size + 1) := e; injection e' with e'; omega))); have HO6 := Lib.hid ho6; have s0 := kept HB6.out n0; have s1 := kept HB6.out n1; clear ho6 hg6)
                    | (refine step_append_R rfl (.tmp 61) (.tmp 63) rfl (w := w) (base := wc.heap.size) (v := v6) (l := [] ++ acc.take 0) (m := [(x, xd)]) (A := some ⟨w6.heap.size, 0, none⟩) (mm := 1) 1 rfl rfl (HO6.out.keep (by repeat' first | exact Below.refl _ _ | refine Below.drew ?_ | refine belowA ?_ _)) (SrcN.one (x := (x, xd)) (xA := xA) (xn := xn) (xc := xc) (by first | exact heap_alloc_new w6 _ | exact HM6.out _ GEN1.out | exact HM6.out _ GNE0.out) HXV.out) HL2.out (bsize (by repeat' first | exact HB6.out | refine Below.drew ?_ | refine belowA ?_ _)) ?_; intro v7 w7 ho7 hg7; have HB7' : Hid (Below wc.heap.size wc w7) := Below.trans (by repeat' first | exact HB6.out | refine Below.drew ?_ | refine belowA ?_ _) (below_of_grown hg7 (bsize (by repeat' first | exact HB6.out | refine Below.drew ?_ | refine belowA ?_ _)) (fun r e => (HO6.out.lt r e).1)); have HO7 := Lib.hid ho7; have s0 := kept HB7'.out n0; have s1 := kept HB7'.out n1; clear ho7 hg7)
                    | (refine step_append_R rfl (.tmp 61) (.tmp 63) rfl (w := w) (base := wc.heap.size) (v := v6) (l := [] ++ acc.take 0) (m := [(x, xd)]) (A := some ⟨(wc.heap.size+1), 0, none⟩) (mm := 1) 1 rfl rfl (HO6.out.keep (by repeat' first | exact Below.refl _ _ | refine Below.drew ?_ | refine belowA ?_ _)) (SrcN.one (x := (x, xd)) (xA := xA) (xn := xn) (xc := xc) (by first | exact heap_alloc_new w6 _ | exact HM6.out _ GEN1.out | exact HM6.out _ GNE0.out) HXV.out) HL2.out (bsize (by repeat' first | exact HB6.out | refine Below.drew ?_ | refine belowA ?_ _)) ?_; intro v7 w7 ho7 hg7; have HB7' : Hid (Below wc.heap.size wc w7) := Below.trans (by repeat' first | exact HB6.out | refine Below.drew ?_ | refine belowA ?_ _) (below_of_grown hg7 (bsize (by repeat' first | exact HB6.out | refine Below.drew ?_ | refine belowA ?_ _)) (fun r e => (HO6.out.lt r e).1)); have HO7 := Lib.hid ho7; have s0 := kept HB7'.out n0; have s1 := kept HB7'.out n1; clear ho7 hg7)
                    | (refine step_append_R rfl (.tmp 61) (.tmp 63) rfl (w := w) (base := wc.heap.size) (v := v6) (l := [] ++ acc.take 0) (m := [(x, xd)]) (A := some ⟨wc.heap.size, 0, none⟩) (mm := 1) 1 rfl rfl (HO6.out.keep (by repeat' first | exact Below.refl _ _ | refine Below.drew ?_ | refine belowA ?_ _)) (SrcN.one (x := (x, xd)) (xA := xA) (xn := xn) (xc := xc) (by first | exact heap_alloc_new w6 _ | exact HM6.out _ GEN1.out | exact HM6.out _ GNE0.out) HXV.out) HL2.out (bsize (by repeat' first | exact HB6.out | refine Below.drew ?_ | refine belowA ?_ _)) ?_; intro v7 w7 ho7 hg7; have HB7' : Hid (Below wc.heap.size wc w7) := Below.trans (by repeat' first | exact HB6.out | refine Below.drew ?_ | refine belowA ?_ _) (below_of_grown hg7 (bsize (by repeat' first | exact HB6.out | refine Below.drew ?_ | refine belowA ?_ _)) (fun r e => (HO6.out.lt r e).1)); have HO7 := Lib.hid ho7; have s0 := kept HB7'.out n0; have s1 := kept HB7'.out n1; clear ho7 hg7)
                    | (refine step_append_R rfl (.tmp 64) (.tmp 67) rfl (w := w) (base := wc.heap.size) (v := v7) (l := ([] ++ acc.take 0) ++ [(x, xd)]) (m := acc.drop 0) (A := none) (mm := 0 - 0) 0 rfl rfl (HO7.out.keep (by repeat' first | exact Below.refl _ _ | refine Below.drew ?_ | refine belowA ?_ _)) (SRC2.out _ (by repeat' first | exact HB7'.out | refine Below.drew ?_ | refine belowA ?_ _)) HL3.out (bsize (by repeat' first | exact HB7'.out | refine Below.drew ?_ | refine belowA ?_ _)) ?_; intro v8 w8 ho8 hg8; have HB8 : Hid (Below wc.heap.size wc w8) := Below.trans (by repeat' first | exact HB7'.out | refine Below.drew ?_ | refine belowA ?_ _) (below_of_grown hg8 (bsize (by repeat' first | exact HB7'.out | refine Below.drew ?_ | refine belowA ?_ _)) (fun r e => (HO7.out.lt r e).1)); have HO8 := Lib.hid ho8; have s0 := kept HB8.out n0; have s1 := kept HB8.out n1; clear ho8 hg8)
                    | fail)
                all_goals
                  go_wp2_with fail
                  go_roundg (n - (0 + 1))
                  case measure => have := HG.out; omega
                  case rel =>
                    refine ⟨0 + 1, _, by omega, rfl, by go_num, belowT HB.out (belowT HW5B.out (belowT HB57.out (by first | exact HB8.out | exact HB8.out.drew | exact below_drewN HB8.out _))), (HO8.out.keep (by first | exact Below.refl _ _ | exact (Below.refl _ _).drew | exact below_drewN (Below.refl _ _) _)).mono hs1', ?_, fun h => absurd h (by omega), HST3.out⟩
                    rw [List.length_append, List.length_append, List.nil_append, List.length_take, List.length_drop, HAL.out, List.length_singleton]
                    omega
              · injection hv0 with a1 a2 a3
                subst a1 a3
                have hk0 : k ≠ 0 := fun h => by have := HNZ.out h; simp at this
                have hoc : ¬ oc = 0 := by have := HAL.out; omega
                have z1 : p ≤ oc := by have := HAL.out; omega
                have z2 : (p : Int) ≤ oc := by omega
                have z3 : (p : Int) ≤ k := by omega
                clear a2
                have hsrc1 : ∀ W, Below wc.heap.size wc W → SrcN w W (some ⟨g, 0, none⟩) p (acc.take p) := fun W hW => (hold'.keep hW).reads.2.take hp HAL.out.symm
                by_cases hpo : oc = p
                · subst hpo
                  have hsrc2 : ∀ W, Below wc.heap.size wc W → SrcN w W (some ⟨g, 0, none⟩) (k - oc) (acc.drop oc) := fun W hW => (hold'.keep hW).reads.2.drop hp HAL.out.symm (.inl (by have := HAL.out; omega))
                  have HCC := Lib.hid hcc
                  have HMX := Lib.hid hmx
                  clear hcc hmx
                  have hgE0 := heap_alloc_new wc (.cells #[] 45)
                  have hgEN0 := two0 wc (.cells #[] 45) (.cells #[.slice xA xn xc, .int .i64 xd] 45)
                  have hgEN1 := two1 wc (.cells #[] 45) (.cells #[.slice xA xn xc, .int .i64 xd] 45)
                  have hgNE0 := two0 wc (.cells #[.slice xA xn xc, .int .i64 xd] 45) (.cells #[] 45)
                  have hgNE1 := two1 wc (.cells #[.slice xA xn xc, .int .i64 xd] 45) (.cells #[] 45)
                  have hL1 : (([] : List Nogood).length + oc) * 32 ≤ 140737488355328 := by rw [List.length_nil]; omega
                  have hL2 : ((([] : List Nogood) ++ acc.take oc).length + 1) * 32 ≤ 140737488355328 := by rw [List.nil_append, List.length_take, HAL.out]; omega
                  have hL3 : (((([] : List Nogood) ++ acc.take oc) ++ [(x, xd)]).length + (k - oc)) * 32 ≤ 140737488355328 := by rw [List.length_append, List.nil_append, List.length_take, HAL.out, List.length_singleton]; omega
                  have HST3 := Lib.hid hst3
                  have HOLD' := Lib.hid hold'
                  have HB7 := Lib.hid hB7
                  have HB57 := Lib.hid hB57
                  have HT := Lib.hid ht
                  have GE0 := Lib.hid hgE0
                  have GEN0 := Lib.hid hgEN0
                  have GEN1 := Lib.hid hgEN1
                  have GNE0 := Lib.hid hgNE0
                  have GNE1 := Lib.hid hgNE1
                  have HL1 := Lib.hid hL1
                  have HL2 := Lib.hid hL2
                  have HL3 := Lib.hid hL3
                  have SRC1 := Lib.hid hsrc1
                  have SRC2 := Lib.hid hsrc2
                  clear hst3 hold' hB7 hB57 ht hgE0 hgEN0 hgEN1 hgNE0 hgNE1 hL1 hL2 hL3 hsrc1 hsrc2
                  go_upto_region 10 with fail
                  go_region_held3 (fun w' => w'.cell? ⟨wo.heap.size, 0, none⟩ = some (.slice xA xn xc) ∧ w'.cell? ⟨wo.heap.size, 1, none⟩ = some (.int .i64 xd))
                    (refine ⟨?_, ?_⟩ <;> first | exact n0 | exact n1 | exact s0 | exact s1 | (refine kept ?_ n0; (repeat' first | exact Below.refl _ _ | refine Below.drew ?_ | refine belowA ?_ _); done) | (refine kept ?_ n1; (repeat' first | exact Below.refl _ _ | refine Below.drew ?_ | refine belowA ?_ _); done) | (refine kept ?_ s0; (repeat' first | exact Below.refl _ _ | refine Below.drew ?_ | refine belowA ?_ _); done) | (refine kept ?_ s1; (repeat' first | exact Below.refl _ _ | refine Below.drew ?_ | refine belowA ?_ _); done))
                    (first
                      | (refine step_append_R rfl (.tmp 57) (.tmp 60) rfl (w := w) (base := wc.heap.size) (v := .slice (some ⟨wc.heap.size, 0, none⟩) 0 0) (l := []) (m := acc.take oc) (A := (some<|⟨g,0,none⟩)) (mm := oc) oc rfl rfl (OwnR.empty (by first | exact GE0.out | exact GEN0.out) (Nat.le_refl _)) (SRC1.out _ (by repeat' first | exact Below.refl _ _ | refine Below.drew ?_ | refine belowA ?_ _)) HL1.out (bsize (by repeat' first | exact Below.refl _ _ | refine Below.drew ?_ | refine belowA ?_ _)) ?_; intro v6 w6 ho6 hg6; have HB6 : Hid (Below wc.heap.size wc w6) := Below.trans (by repeat' first | exact Below.refl _ _ | refine Below.drew ?_ | refine belowA ?_ _) (below_of_grown hg6 (bsize (by repeat' first | exact Below.refl _ _ | refine Below.drew ?_ | refine belowA ?_ _)) (fun r e => (by have e' : some wc.heap.size = some r := e; injection e' with e'; omega))); have HM6 := Lib.hid (grown_other hg6 (wc.heap.size + 1) (fun e => (by have e' : some (wc.heap.size + 1) = some wc.heap.size := e; injection e' with e'; omega))); have HO6 := Lib.hid ho6; have s0 := kept HB6.out n0; have s1 := kept HB6.out n1; clear ho6 hg6)
                      | (refine step_append_R rfl (.tmp 57) (.tmp 60) rfl (w := w) (base := wc.heap.size) (v := .slice (some ⟨wc.heap.size + 1, 0, none⟩) 0 0) (l := []) (m := acc.take oc) (A := (some<|⟨g,0,none⟩)) (mm := oc) oc rfl rfl (OwnR.empty (by exact GNE1.out) (Nat.le_succ _)) (SRC1.out _ (by repeat' first | exact Below.refl _ _ | refine Below.drew ?_ | refine belowA ?_ _)) HL1.out (bsize (by repeat' first | exact Below.refl _ _ | refine Below.drew ?_ | refine belowA ?_ _)) ?_; intro v6 w6 ho6 hg6; have HB6 : Hid (Below wc.heap.size wc w6) := Below.trans (by repeat' first | exact Below.refl _ _ | refine Below.drew ?_ | refine belowA ?_ _) (below_of_grown hg6 (bsize (by repeat' first | exact Below.refl _ _ | refine Below.drew ?_ | refine belowA ?_ _)) (fun r e => (by have e' : some (wc.heap.size + 1) = some r := e; injection e' with e'; omega))); have HM6 := Lib.hid (grown_other hg6 wc.heap.size (fun e => (by have e' : some wc.heap.size = some (wc.heap.size + 1) := e; injection e' with e'; omega))); have HO6 := Lib.hid ho6; have s0 := kept HB6.out n0; have s1 := kept HB6.out n1; clear ho6 hg6)
                      | (refine step_append_R rfl (.tmp 61) (.tmp 63) rfl (w := w) (base := wc.heap.size) (v := v6) (l := [] ++ acc.take oc) (m := [(x, xd)]) (A := some ⟨w6.heap.size, 0, none⟩) (mm := 1) 1 rfl rfl (HO6.out.keep (by repeat' first | exact Below.refl _ _ | refine Below.drew ?_ | refine belowA ?_ _)) (SrcN.one (x := (x, xd)) (xA := xA) (xn := xn) (xc := xc) (by first | exact heap_alloc_new w6 _ | exact HM6.out _ GEN1.out | exact HM6.out _ GNE0.out) HXV.out) HL2.out (bsize (by repeat' first | exact HB6.out | refine Below.drew ?_ | refine belowA ?_ _)) ?_; intro v7 w7 ho7 hg7; have HB7' : Hid (Below wc.heap.size wc w7) := Below.trans (by repeat' first | exact HB6.out | refine Below.drew ?_ | refine belowA ?_ _) (below_of_grown hg7 (bsize (by repeat' first | exact HB6.out | refine Below.drew ?_ | refine belowA ?_ _)) (fun r e => (HO6.out.lt r e).1)); have HO7 := Lib.hid ho7; have s0 := kept HB7'.out n0; have s1 := kept HB7'.out n1; clear ho7 hg7)
                      | (refine step_append_R rfl (.tmp 61) (.tmp 63) rfl (w := w) (base := wc.heap.size) (v := v6) (l := [] ++ acc.take oc) (m := [(x, xd)]) (A := some ⟨(wc.heap.size+1), 0, none⟩) (mm := 1) 1 rfl rfl (HO6.out.keep (by repeat' first | exact Below.refl _ _ | refine Below.drew ?_ | refine belowA ?_ _)) (SrcN.one (x := (x, xd)) (xA := xA) (xn := xn) (xc := xc) (by first | exact heap_alloc_new w6 _ | exact HM6.out _ GEN1.out | exact HM6.out _ GNE0.out) HXV.out) HL2.out (bsize (by repeat' first | exact HB6.out | refine Below.drew ?_ | refine belowA ?_ _)) ?_; intro v7 w7 ho7 hg7; have HB7' : Hid (Below wc.heap.size wc w7) := Below.trans (by repeat' first | exact HB6.out | refine Below.drew ?_ | refine belowA ?_ _) (below_of_grown hg7 (bsize (by repeat' first | exact HB6.out | refine Below.drew ?_ | refine belowA ?_ _)) (fun r e => (HO6.out.lt r e).1)); have HO7 := Lib.hid ho7; have s0 := kept HB7'.out n0; have s1 := kept HB7'.out n1; clear ho7 hg7)
                      | (refine step_append_R rfl (.tmp 61) (.tmp 63) rfl (w := w) (base := wc.heap.size) (v := v6) (l := [] ++ acc.take oc) (m := [(x, xd)]) (A := some ⟨wc.heap.size, 0, none⟩) (mm := 1) 1 rfl rfl (HO6.out.keep (by repeat' first | exact Below.refl _ _ | refine Below.drew ?_ | refine belowA ?_ _)) (SrcN.one (x := (x, xd)) (xA := xA) (xn := xn) (xc := xc) (by first | exact heap_alloc_new w6 _ | exact HM6.out _ GEN1.out | exact HM6.out _ GNE0.out) HXV.out) HL2.out (bsize (by repeat' first | exact HB6.out | refine Below.drew ?_ | refine belowA ?_ _)) ?_; intro v7 w7 ho7 hg7; have HB7' : Hid (Below wc.heap.size wc w7) := Below.trans (by repeat' first | exact HB6.out | refine Below.drew ?_ | refine belowA ?_ _) (below_of_grown hg7 (bsize (by repeat' first | exact HB6.out | refine Below.drew ?_ | refine belowA ?_ _)) (fun r e => (HO6.out.lt r e).1)); have HO7 := Lib.hid ho7; have s0 := kept HB7'.out n0; have s1 := kept HB7'.out n1; clear ho7 hg7)
                      | (refine step_append_R rfl (.tmp 64) (.tmp 67) rfl (w := w) (base := wc.heap.size) (v := v7) (l := ([] ++ acc.take oc) ++ [(x, xd)]) (m := acc.drop oc) (A := (some<|⟨g,0,none⟩)) (mm := k - oc) 0 rfl rfl (HO7.out.keep (by repeat' first | exact Below.refl _ _ | refine Below.drew ?_ | refine belowA ?_ _)) (SRC2.out _ (by repeat' first | exact HB7'.out | refine Below.drew ?_ | refine belowA ?_ _)) HL3.out (bsize (by repeat' first | exact HB7'.out | refine Below.drew ?_ | refine belowA ?_ _)) ?_; intro v8 w8 ho8 hg8; have HB8 : Hid (Below wc.heap.size wc w8) := Below.trans (by repeat' first | exact HB7'.out | refine Below.drew ?_ | refine belowA ?_ _) (below_of_grown hg8 (bsize (by repeat' first | exact HB7'.out | refine Below.drew ?_ | refine belowA ?_ _)) (fun r e => (HO7.out.lt r e).1)); have HO8 := Lib.hid ho8; have s0 := kept HB8.out n0; have s1 := kept HB8.out n1; clear ho8 hg8)
                      | fail)
                  all_goals
                    go_wp2_with fail
                    go_roundg (n - (k + 1))
                    case measure => have := HG.out; omega
                    case rel =>
                      refine ⟨k + 1, _, by omega, rfl, by go_num, belowT HB.out (belowT HW5B.out (belowT HB57.out (by first | exact HB8.out | exact HB8.out.drew | exact below_drewN HB8.out _))), (HO8.out.keep (by first | exact Below.refl _ _ | exact (Below.refl _ _).drew | exact below_drewN (Below.refl _ _) _)).mono hs1', ?_, fun h => absurd h (by omega), HST3.out⟩
                      rw [List.length_append, List.length_append, List.nil_append, List.length_take, List.length_drop, HAL.out, List.length_singleton]
                      omega
                · have hsrc2 : ∀ W, Below wc.heap.size wc W → SrcN w W (some ⟨g, p * 2, none⟩) (k - p) (acc.drop p) := fun W hW => (hold'.keep hW).reads.2.drop hp HAL.out.symm (.inr rfl)
                  have hpo2 : ¬ p = oc := fun e => hpo e.symm
                  have HCC := Lib.hid hcc
                  have HMX := Lib.hid hmx
                  clear hcc hmx
                  have hgE0 := heap_alloc_new wc (.cells #[] 45)
                  have hgEN0 := two0 wc (.cells #[] 45) (.cells #[.slice xA xn xc, .int .i64 xd] 45)
                  have hgEN1 := two1 wc (.cells #[] 45) (.cells #[.slice xA xn xc, .int .i64 xd] 45)
                  have hgNE0 := two0 wc (.cells #[.slice xA xn xc, .int .i64 xd] 45) (.cells #[] 45)
                  have hgNE1 := two1 wc (.cells #[.slice xA xn xc, .int .i64 xd] 45) (.cells #[] 45)
                  have hL1 : (([] : List Nogood).length + p) * 32 ≤ 140737488355328 := by rw [List.length_nil]; omega
                  have hL2 : ((([] : List Nogood) ++ acc.take p).length + 1) * 32 ≤ 140737488355328 := by rw [List.nil_append, List.length_take, HAL.out]; omega
                  have hL3 : (((([] : List Nogood) ++ acc.take p) ++ [(x, xd)]).length + (k - p)) * 32 ≤ 140737488355328 := by rw [List.length_append, List.nil_append, List.length_take, HAL.out, List.length_singleton]; omega
                  have HST3 := Lib.hid hst3
                  have HOLD' := Lib.hid hold'
                  have HB7 := Lib.hid hB7
                  have HB57 := Lib.hid hB57
                  have HT := Lib.hid ht
                  have GE0 := Lib.hid hgE0
                  have GEN0 := Lib.hid hgEN0
                  have GEN1 := Lib.hid hgEN1
                  have GNE0 := Lib.hid hgNE0
                  have GNE1 := Lib.hid hgNE1
                  have HL1 := Lib.hid hL1
                  have HL2 := Lib.hid hL2
                  have HL3 := Lib.hid hL3
                  have SRC1 := Lib.hid hsrc1
                  have SRC2 := Lib.hid hsrc2
                  clear hst3 hold' hB7 hB57 ht hgE0 hgEN0 hgEN1 hgNE0 hgNE1 hL1 hL2 hL3 hsrc1 hsrc2
                  go_upto_region 10 with fail
                  go_region_held3 (fun w' => w'.cell? ⟨wo.heap.size, 0, none⟩ = some (.slice xA xn xc) ∧ w'.cell? ⟨wo.heap.size, 1, none⟩ = some (.int .i64 xd))
                    (refine ⟨?_, ?_⟩ <;> first | exact n0 | exact n1 | exact s0 | exact s1 | (refine kept ?_ n0; (repeat' first | exact Below.refl _ _ | refine Below.drew ?_ | refine belowA ?_ _); done) | (refine kept ?_ n1; (repeat' first | exact Below.refl _ _ | refine Below.drew ?_ | refine belowA ?_ _); done) | (refine kept ?_ s0; (repeat' first | exact Below.refl _ _ | refine Below.drew ?_ | refine belowA ?_ _); done) | (refine kept ?_ s1; (repeat' first | exact Below.refl _ _ | refine Below.drew ?_ | refine belowA ?_ _); done))
                    (first
                      | (refine step_append_R rfl (.tmp 57) (.tmp 60) rfl (w := w) (base := wc.heap.size) (v := .slice (some ⟨wc.heap.size, 0, none⟩) 0 0) (l := []) (m := acc.take p) (A := (some<|⟨g,0,none⟩)) (mm := p) oc rfl rfl (OwnR.empty (by first | exact GE0.out | exact GEN0.out) (Nat.le_refl _)) (SRC1.out _ (by repeat' first | exact Below.refl _ _ | refine Below.drew ?_ | refine belowA ?_ _)) HL1.out (bsize (by repeat' first | exact Below.refl _ _ | refine Below.drew ?_ | refine belowA ?_ _)) ?_; intro v6 w6 ho6 hg6; have HB6 : Hid (Below wc.heap.size wc w6) := Below.trans (by repeat' first | exact Below.refl _ _ | refine Below.drew ?_ | refine belowA ?_ _) (below_of_grown hg6 (bsize (by repeat' first | exact Below.refl _ _ | refine Below.drew ?_ | refine belowA ?_ _)) (fun r e => (by have e' : some wc.heap.size = some r := e; injection e' with e'; omega))); have HM6 := Lib.hid (grown_other hg6 (wc.heap.size + 1) (fun e => (by have e' : some (wc.heap.size + 1) = some wc.heap.size := e; injection e' with e'; omega))); have HO6 := Lib.hid ho6; have s0 := kept HB6.out n0; have s1 := kept HB6.out n1; clear ho6 hg6)
                      | (refine step_append_R rfl (.tmp 57) (.tmp 60) rfl (w := w) (base := wc.heap.size) (v := .slice (some ⟨wc.heap.size + 1, 0, none⟩) 0 0) (l := []) (m := acc.take p) (A := (some<|⟨g,0,none⟩)) (mm := p) oc rfl rfl (OwnR.empty (by exact GNE1.out) (Nat.le_succ _)) (SRC1.out _ (by repeat' first | exact Below.refl _ _ | refine Below.drew ?_ | refine belowA ?_ _)) HL1.out (bsize (by repeat' first | exact Below.refl _ _ | refine Below.drew ?_ | refine belowA ?_ _)) ?_; intro v6 w6 ho6 hg6; have HB6 : Hid (Below wc.heap.size wc w6) := Below.trans (by repeat' first | exact Below.refl _ _ | refine Below.drew ?_ | refine belowA ?_ _) (below_of_grown hg6 (bsize (by repeat' first | exact Below.refl _ _ | refine Below.drew ?_ | refine belowA ?_ _)) (fun r e => (by have e' : some (wc.heap.size + 1) = some r := e; injection e' with e'; omega))); have HM6 := Lib.hid (grown_other hg6 wc.heap.size (fun e => (by have e' : some wc.heap.size = some (wc.heap.size + 1) := e; injection e' with e'; omega))); have HO6 := Lib.hid ho6; have s0 := kept HB6.out n0; have s1 := kept HB6.out n1; clear ho6 hg6)
                      | (refine step_append_R rfl (.tmp 61) (.tmp 63) rfl (w := w) (base := wc.heap.size) (v := v6) (l := [] ++ acc.take p) (m := [(x, xd)]) (A := some ⟨w6.heap.size, 0, none⟩) (mm := 1) 1 rfl rfl (HO6.out.keep (by repeat' first | exact Below.refl _ _ | refine Below.drew ?_ | refine belowA ?_ _)) (SrcN.one (x := (x, xd)) (xA := xA) (xn := xn) (xc := xc) (by first | exact heap_alloc_new w6 _ | exact HM6.out _ GEN1.out | exact HM6.out _ GNE0.out) HXV.out) HL2.out (bsize (by repeat' first | exact HB6.out | refine Below.drew ?_ | refine belowA ?_ _)) ?_; intro v7 w7 ho7 hg7; have HB7' : Hid (Below wc.heap.size wc w7) := Below.trans (by repeat' first | exact HB6.out | refine Below.drew ?_ | refine belowA ?_ _) (below_of_grown hg7 (bsize (by repeat' first | exact HB6.out | refine Below.drew ?_ | refine belowA ?_ _)) (fun r e => (HO6.out.lt r e).1)); have HO7 := Lib.hid ho7; have s0 := kept HB7'.out n0; have s1 := kept HB7'.out n1; clear ho7 hg7)
                      | (refine step_append_R rfl (.tmp 61) (.tmp 63) rfl (w := w) (base := wc.heap.size) (v := v6) (l := [] ++ acc.take p) (m := [(x, xd)]) (A := some ⟨(wc.heap.size+1), 0, none⟩) (mm := 1) 1 rfl rfl (HO6.out.keep (by repeat' first | exact Below.refl _ _ | refine Below.drew ?_ | refine belowA ?_ _)) (SrcN.one (x := (x, xd)) (xA := xA) (xn := xn) (xc := xc) (by first | exact heap_alloc_new w6 _ | exact HM6.out _ GEN1.out | exact HM6.out _ GNE0.out) HXV.out) HL2.out (bsize (by repeat' first | exact HB6.out | refine Below.drew ?_ | refine belowA ?_ _)) ?_; intro v7 w7 ho7 hg7; have HB7' : Hid (Below wc.heap.size wc w7) := Below.trans (by repeat' first | exact HB6.out | refine Below.drew ?_ | refine belowA ?_ _) (below_of_grown hg7 (bsize (by repeat' first | exact HB6.out | refine Below.drew ?_ | refine belowA ?_ _)) (fun r e => (HO6.out.lt r e).1)); have HO7 := Lib.hid ho7; have s0 := kept HB7'.out n0; have s1 := kept HB7'.out n1; clear ho7 hg7)
                      | (refine step_append_R rfl (.tmp 61) (.tmp 63) rfl (w := w) (base := wc.heap.size) (v := v6) (l := [] ++ acc.take p) (m := [(x, xd)]) (A := some ⟨wc.heap.size, 0, none⟩) (mm := 1) 1 rfl rfl (HO6.out.keep (by repeat' first | exact Below.refl _ _ | refine Below.drew ?_ | refine belowA ?_ _)) (SrcN.one (x := (x, xd)) (xA := xA) (xn := xn) (xc := xc) (by first | exact heap_alloc_new w6 _ | exact HM6.out _ GEN1.out | exact HM6.out _ GNE0.out) HXV.out) HL2.out (bsize (by repeat' first | exact HB6.out | refine Below.drew ?_ | refine belowA ?_ _)) ?_; intro v7 w7 ho7 hg7; have HB7' : Hid (Below wc.heap.size wc w7) := Below.trans (by repeat' first | exact HB6.out | refine Below.drew ?_ | refine belowA ?_ _) (below_of_grown hg7 (bsize (by repeat' first | exact HB6.out | refine Below.drew ?_ | refine belowA ?_ _)) (fun r e => (HO6.out.lt r e).1)); have HO7 := Lib.hid ho7; have s0 := kept HB7'.out n0; have s1 := kept HB7'.out n1; clear ho7 hg7)
                      | (refine step_append_R rfl (.tmp 64) (.tmp 67) rfl (w := w) (base := wc.heap.size) (v := v7) (l := ([] ++ acc.take p) ++ [(x, xd)]) (m := acc.drop p) (A := (some<|⟨g,p*2,none⟩)) (mm := k - p) (oc-p) rfl rfl (HO7.out.keep (by repeat' first | exact Below.refl _ _ | refine Below.drew ?_ | refine belowA ?_ _)) (SRC2.out _ (by repeat' first | exact HB7'.out | refine Below.drew ?_ | refine belowA ?_ _)) HL3.out (bsize (by repeat' first | exact HB7'.out | refine Below.drew ?_ | refine belowA ?_ _)) ?_; intro v8 w8 ho8 hg8; have HB8 : Hid (Below wc.heap.size wc w8) := Below.trans (by repeat' first | exact HB7'.out | refine Below.drew ?_ | refine belowA ?_ _) (below_of_grown hg8 (bsize (by repeat' first | exact HB7'.out | refine Below.drew ?_ | refine belowA ?_ _)) (fun r e => (HO7.out.lt r e).1)); have HO8 := Lib.hid ho8; have s0 := kept HB8.out n0; have s1 := kept HB8.out n1; clear ho8 hg8)
                      | fail)
                  all_goals
                    go_wp2_with fail
                    go_roundg (n - (k + 1))
                    case measure => have := HG.out; omega
                    case rel =>
                      refine ⟨k + 1, _, by omega, rfl, by go_num, belowT HB.out (belowT HW5B.out (belowT HB57.out (by first | exact HB8.out | exact HB8.out.drew | exact below_drewN HB8.out _))), (HO8.out.keep (by first | exact Below.refl _ _ | exact (Below.refl _ _).drew | exact below_drewN (Below.refl _ _) _)).mono hs1', ?_, fun h => absurd h (by omega), HST3.out⟩
                      rw [List.length_append, List.length_append, List.nil_append, List.length_take, List.length_drop, HAL.out, List.length_singleton]
                      omega
            · have hp0 : 0 < p := by cases p with
                | zero => simp [ltAt] at ht
                | succ p => omega
              have z1 : IntKind.i64.wrap ((p : Int) - 1) = (p : Int) - 1 := by rw [IntKind.wrap_i64]; omega
              have e2 : (p : Int) - 1 = ((p - 1 : Nat) : Int) := by omega
              have E2 := Lib.hid e2
              have HB7 := Lib.hid hB7
              have HB57 := Lib.hid hB57
              have HT := Lib.hid ht
              clear e2 hB7 hB57 ht
              go_wp2_with fail
              go_roundg (p - 1)
              case measure => have := HG2.out; omega
              case rel => exact ⟨p - 1, by omega, rfl, by rw [← E2.out], HB57.out, HST2.out⟩
      · have hfin : D = acc := by rw [hF, List.drop_eq_nil_of_le (by have := HN.out; omega), rsortL]
        have b4 : Below W0.heap.size W0 wo := belowT HB1.out hB
        have t4 := b4.block (w.heap.size + 1) (by have := HSZ.out; omega)
        rw [HRB.out] at t4
        have m0 : wo.cell? ⟨w.heap.size + 1, 0, none⟩ = some (.int .i64 0) := by simp [World.cell?, t4]
        have m1 : wo.cell? ⟨w.heap.size + 1, 1, none⟩ = some (.slice none 0 0) := by simp [World.cell?, t4]
        have kf : ∀ j, wo.frozen? ⟨w.heap.size + 1, j, none⟩ = false := fun j => by simp [World.frozen?, t4]
        have hbw0 := belowT HBW.out b4
        have HFIN := Lib.hid hfin
        have HNZ := Lib.hid hnz
        have HB := Lib.hid hB
        have HOWN := Lib.hid hown
        have HF := Lib.hid hF
        have HBw := Lib.hid hBw
        have T4 := Lib.hid t4
        have HAL := Lib.hid hal
        have HG := Lib.hid hg
        have B4 := Lib.hid b4
        have HBW0 := Lib.hid hbw0
        clear hfin hnz hB hown hF hBw t4 hal hg b4 hbw0
        rw [HAL.out]
        go_wp2_with fail
        have t1 := set_block (i := 0) T4.out (.int .i64 bd) #[.int .i64 bd, .slice none 0 0] rfl
        have t2 := set_block (i := 1) t1 (.slice oA k oc) #[.int .i64 bd, .slice oA k oc] rfl
        have gg := World.grownBy.trans (set_grown (i := 0) T4.out (.int .i64 bd)) (set_grown (i := 1) t1 (.slice oA k oc))
        generalize (wo.setCell ⟨w.heap.size + 1, 0, none⟩ (.int .i64 bd)).setCell ⟨w.heap.size + 1, 1, none⟩ (.slice oA k oc) = wf at t2 gg ⊢
        have e0 : wf.cell? ⟨w.heap.size + 1, 0, none⟩ = some (.int .i64 bd) := by simp [World.cell?, t2]
        have e1 : wf.cell? ⟨w.heap.size + 1, 1, none⟩ = some (.slice oA k oc) := by simp [World.cell?, t2]
        have hbf : Below w.heap.size w wf := HBW0.out.trans (below_of_grown gg HBW0.out.size (fun g hg => by injection hg with hg; omega))
        refine bodyPost_ret (v := .agg #[.int .i64 bd, .slice oA k oc]) (by simp [results, Tryd.results24, go_sem, e0, e1]) rfl ⟨_, rfl, ?_, hbf⟩
        rw [HFIN.out]
        exact (HOWN.out.kept gg (fun r e => by injection e with e; have := HSZ.out; have := HB1.out.size; omega)).nogoods hbf (by have := HAL.out; omega)
  · have hso : sortC bd l = l := if_neg hz
    rw [hso]
    obtain ⟨z, hzz⟩ : ∃ z, z = checkF bd l := ⟨_, rfl⟩
    rw [← hzz] at hck hz
    have hzb : (z != 0) = true := by simpa using hz
    have HV := Lib.hid hv
    have HN := Lib.hid hn
    have HW0 := Lib.hid hW0
    have HBW := Lib.hid hBW
    have HRB := Lib.hid hrb
    have HV0 := Lib.hid hv0
    have HSZ := Lib.hid hsz
    have HCK := Lib.hid hck
    have HSO := Lib.hid hso
    have HZ := Lib.hid hz
    have HZZ := Lib.hid hzz
    clear hv hn hW0 hBW hrb hv0 hsz hck hso hz hzz
    go_enter Tryd.func24, Tryd.ntmps24
    go_upto_region 1 with fail
    rw [← HW0.out]
    go_upto_region 2 with (go_at_call 14; refine HCK.out.mono ?_; rintro e w1 ⟨rfl, hb1⟩; have q0 := kept hb1 p0; have q1 := kept hb1 p1; have HB1 := Lib.hid hb1; clear hb1)
    have t4 := HB1.out.block (w.heap.size + 1) (by have := HSZ.out; omega)
    rw [HRB.out] at t4
    have m0 : w1.cell? ⟨w.heap.size + 1, 0, none⟩ = some (.int .i64 0) := by simp [World.cell?, t4]
    have m1 : w1.cell? ⟨w.heap.size + 1, 1, none⟩ = some (.slice none 0 0) := by simp [World.cell?, t4]
    have kf : ∀ j, w1.frozen? ⟨w.heap.size + 1, j, none⟩ = false := fun j => by simp [World.frozen?, t4]
    have T4 := Lib.hid t4
    clear t4
    go_wp2_with fail
    have t1 := set_block (i := 0) T4.out (.int .i64 bd) #[.int .i64 bd, .slice none 0 0] rfl
    have t2 := set_block (i := 1) t1 (.slice A n c) #[.int .i64 bd, .slice A n c] rfl
    have gg := World.grownBy.trans (set_grown (i := 0) T4.out (.int .i64 bd)) (set_grown (i := 1) t1 (.slice A n c))
    generalize (w1.setCell ⟨w.heap.size + 1, 0, none⟩ (.int .i64 bd)).setCell ⟨w.heap.size + 1, 1, none⟩ (.slice A n c) = wf at t2 gg ⊢
    have e0 : wf.cell? ⟨w.heap.size + 1, 0, none⟩ = some (.int .i64 bd) := by simp [World.cell?, t2]
    have e1 : wf.cell? ⟨w.heap.size + 1, 1, none⟩ = some (.slice A n c) := by simp [World.cell?, t2]
    have hbw1 := belowT HBW.out HB1.out
    have hbf : Below w.heap.size w wf := hbw1.trans (below_of_grown gg hbw1.size (fun g hg => by injection hg with hg; omega))
    exact bodyPost_ret (v := .agg #[.int .i64 bd, .slice A n c]) (by simp [results, Tryd.results24, go_sem, e0, e1]) rfl ⟨_, rfl, HV.out.keep hbf, hbf⟩
end Go.Proofs.YticdfbhbbapbdaaDoor
