/- Opening arguments: slices of numbers, of facts, of nogoods, a certificate. -/
import Derived.Test.YticdfbhbbapbdaaDoorBase
import Derived.Deep.Slices
import Derived.Deep.Fields
import Derived.ChangeSame
import Derived.SizedLaws
import Derived.Lib.SmallJoins
namespace Go.Proofs.YticdfbhbbapbdaaDoor
open Go.RowKit Go.ChangeShapes Go.WideShapes Go.Deep Go.Joins

def I64 (x : Int) : Prop := -9223372036854775808 ≤ x ∧ x ≤ 9223372036854775807
theorem I64.of {x : Int} (h : (Lit.int .i64 x).wf = true) : I64 x := by
  have := bounds_i64 h
  exact this

section
variable {H : Type} {enc : TypeId × Value → H} {P : Program} {w : World} {base : Nat} {spare : Nat → Bool} {held : Bool}

/-- within the form's reach -/
def Sized (P : Program) (t : TypeId) (d : DataW H) : Prop := ∀ n ∈ d.weights P t, n ≤ reachBytes
theorem sized_arg {ts : List TypeId} {ds : List (DataW H)} (h : (DataW.weightsEach P ts ds).all (· ≤ reachBytes) = true) {j : Nat} {t : TypeId} {d : DataW H} (ht : ts[j]? = some t) (hd : ds[j]? = some d) : Sized P t d :=
  fun n hn => of_decide_eq_true (List.all_eq_true.1 h n (DataW.weights_mem_each ht hd n hn))
theorem sized_field {t : TypeId} {fs : Array Field} {parts : List (DataW H)} (h : Sized P t (.agg parts)) (hu : P.underlying t = some (.struct fs)) {j : Nat} {f : Field} {d : DataW H} (hf : fs[j]? = some f) (hd : parts[j]? = some d) : Sized P f.type d :=
  fun n hn => h n (by
    simp only [DataW.weights, hu]
    exact DataW.weights_mem_each (j := j) (by simp [List.getElem?_map, hf]) hd n hn)
theorem weightsAll_mem {e : TypeId} : ∀ {l : List (DataW H)} {d : DataW H}, d ∈ l → ∀ n ∈ d.weights P e, n ∈ DataW.weightsAll P e l
  | x :: l, d, hd, n, hn => by
    simp only [DataW.weightsAll, List.mem_append]
    rcases List.mem_cons.1 hd with rfl | h
    · exact Or.inl hn
    · exact Or.inr (weightsAll_mem h n hn)
theorem sized_elem {t e : TypeId} {elems sp : List (DataW H)} (h : Sized P t (.slice elems sp)) (hu : P.underlying t = some (.slice e)) {d : DataW H} (hd : d ∈ elems) : Sized P e d :=
  fun n hn => h n (by
    simp only [DataW.weights, hu, List.mem_cons, List.mem_append]
    exact Or.inr (Or.inl (weightsAll_mem hd n hn)))
theorem sized_len {t e : TypeId} {elems sp : List (DataW H)} (h : Sized P t (.slice elems sp)) (hu : P.underlying t = some (.slice e)) : elems.length * P.bytesOf e ≤ 140737488355328 := by
  have h1 := h ((elems.length + sp.length) * P.bytesOf e) (by simp [DataW.weights, hu])
  have h2 : elems.length * P.bytesOf e ≤ (elems.length + sp.length) * P.bytesOf e := Nat.mul_le_mul_right _ (by omega)
  have h3 : reachBytes ≤ 140737488355328 := by decide
  omega

theorem open_slice_fields {t e : TypeId} {fs : Array Field} {fuel : Nat} {cs : List Value} {x : DataW H × List MemPlace} (ht : P.underlying t = some (.slice e)) (he : P.underlying e = some (.struct fs))
    (hone : oneCellFields P fs = true) (hC : P.cellsOf e = fs.size) (h : DataW.trod enc P w base spare held fuel t cs = some x) :
    (cs = [.slice none 0 0] ∧ x = (.nil, [])) ∨
    ∃ (a : Addr) (len cap m : Nat) (D : Nat → DataW H) (Pl : Nat → List MemPlace), cs = [.slice (some a) len cap] ∧ base ≤ a.block ∧ len ≤ cap ∧ cap ≤ maxLen ∧ m = (if spare a.block then cap else len) ∧
      x = (.slice ((List.range len).map D) ((List.range (m - len)).map fun j => D (len + j)), MemPlace.row a (m * fs.size) ++ (List.range m).flatMap Pl) ∧
      ∀ i, i < m → ∃ (ys : List (DataW H × List MemPlace)) (n : Nat), D i = .agg (ys.map (·.1)) ∧ Pl i = ys.flatMap (·.2) ∧ ys.length = fs.size ∧
        ∀ (j : Nat) (f : Field), fs[j]? = some f → ∃ (v : Value) (y : DataW H × List MemPlace), w.cell? (a.add (i * fs.size + j)) = some v ∧ ys[j]? = some y ∧ DataW.trod enc P w base spare held n f.type [v] = some y := by
  rcases open_slice ht h with h0 | ⟨a, len, cap, m, n, D, Pl, hcs, hb, hl, hm, hmm, hx, hi⟩
  · exact .inl h0
  · refine .inr ⟨a, len, cap, m, D, Pl, hcs, hb, hl, hm, hmm, by rw [hC] at hx; exact hx, fun i him => ?_⟩
    obtain ⟨cs', hc, ht'⟩ := hi i him
    rw [hC] at hc
    obtain ⟨ys, n', hn', hy, hlen, hyl, hf⟩ := DataW.trod_struct he ht'
    obtain ⟨_, hcl, hat⟩ := World.cells?_some hc
    simp only [Prod.mk.injEq] at hy
    refine ⟨ys, n', hy.1, hy.2, hyl, fun j f hj => ?_⟩
    obtain ⟨ho, hk⟩ := hone_of hone j f hj
    have hjl : j < fs.size := (Array.getElem?_eq_some_iff.1 hj).1
    have hcell := hat j hjl
    have hv : cs'[j]? = some (cs'[j]'(by omega)) := List.getElem?_eq_getElem (by omega)
    have h1 := hf j f hj
    rw [ho, hk] at h1
    have hone' : (cs'.drop j).take 1 = [cs'[j]'(by omega)] := by
      rw [List.drop_eq_getElem_cons (by omega)]
      rfl
    rw [hone'] at h1
    have hys : ys[j]? = some (ys[j]'(by omega)) := List.getElem?_eq_getElem (by omega)
    refine ⟨_, _, ?_, hys, h1.trans hys⟩
    rw [← Go.Deep.add_add, hcell, hv]
end

theorem spot_of_cell {w : World} {p : Addr} {v : Value} (h : w.cell? p = some v) : p.spot = none := by
  unfold World.cell? at h
  split at h
  · split at h
    · cases h
    · rename_i hs; simpa using hs
  · cases h
theorem addr_of_cell {w : World} {a : Addr} {k : Nat} {v : Value} (h0 : ∃ u, w.cell? (a.add 0) = some u) (h : w.cell? (a.add k) = some v) : a = ⟨a.block, a.off, none⟩ ∧ w.cell? ⟨a.block, a.off + k, none⟩ = some v := by
  obtain ⟨u, hu⟩ := h0
  have hs := spot_of_cell hu
  obtain ⟨b, off, sp⟩ := a
  simp [Addr.add] at hs
  subst hs
  refine ⟨rfl, ?_⟩
  rw [← h]
  congr 1
  unfold Addr.add
  split
  · subst k; rfl
  · rfl

theorem list_of {α : Type} (n : Nat) (R : Nat → α → Prop) (h : ∀ i, i < n → ∃ x, R i x) : ∃ l : List α, l.length = n ∧ ∀ k x, l[k]? = some x → R k x := by
  induction n with
  | zero => exact ⟨[], rfl, fun k x hx => by simp at hx⟩
  | succ n ih =>
    obtain ⟨l, hl, hr⟩ := ih (fun i hi => h i (by omega))
    obtain ⟨x, hx⟩ := h n (by omega)
    refine ⟨l ++ [x], by simp [hl], fun k y hy => ?_⟩
    by_cases hk : k < n
    · rw [List.getElem?_append_left (by omega)] at hy
      exact hr k y hy
    · rw [List.getElem?_append_right (by omega)] at hy
      have hk' : k - l.length = 0 := by
        have := (List.getElem?_eq_some_iff.1 hy).1
        simp at this
        omega
      rw [hk'] at hy
      simp at hy
      subst hy
      obtain rfl : k = n := by omega
      exact hx

variable {H : Type} {enc : TypeId × Value → H} {w : World} {base : Nat} {spare : Nat → Bool} {held : Bool}
theorem open_intsAt {fuel : Nat} {v : Value} {x : DataW H × List MemPlace} (h : DataW.trod enc Tryd.prog w base spare held fuel 36 [v] = some x) (hs : Sized Tryd.prog 36 x.1) : ∃ l, IntsAt w v l ∧ ∀ z ∈ l, I64 z := by
  rcases open_slice Tryd.underlying36 h with ⟨hv, _⟩ | ⟨a, len, cap, m, n, D, Pl, hcs, hb, hl, hm, hmm, hx, hi⟩
  · injection hv with hv
    subst hv
    exact ⟨[], ⟨none, 0, rfl, by simp, fun k x hx => by simp at hx⟩, fun z hz => by cases hz⟩
  · injection hcs with hcs
    subst hcs
    subst hx
    have hlen := sized_len hs Tryd.underlying36
    have hby : Tryd.prog.bytesOf 3 = 8 := by kernel_rfl
    have hcl : Tryd.prog.cellsOf 3 = 1 := by kernel_rfl
    simp only [List.length_map, List.length_range, hby] at hlen
    have hml : len ≤ m := by rw [hmm]; split <;> omega
    have hcell : ∀ i, i < len → ∃ z, w.cell? (a.add i) = some (.int .i64 z) ∧ I64 z := by
      intro i hi'
      obtain ⟨cs', hc, ht'⟩ := hi i (by omega)
      rw [hcl] at hc
      obtain ⟨z, hz, _, wz⟩ := DataW.trod_int Tryd.underlying3 ht'
      obtain ⟨_, hcl', hat⟩ := World.cells?_some hc
      subst hz
      have := hat 0 (by omega)
      simp [Go.Deep.add_add] at this
      exact ⟨z, this, I64.of wz⟩
    obtain ⟨l, hl', hat⟩ := list_of len (fun i z => w.cell? (a.add i) = some (.int .i64 z) ∧ I64 z) hcell
    refine ⟨l, ⟨some a, cap, by rw [hl'], by rw [hl']; exact hlen, fun k x hx => ?_⟩, fun z hz => ?_⟩
    · obtain ⟨z0, h0, _⟩ := hcell 0 (by have := (List.getElem?_eq_some_iff.1 hx).1; omega)
      obtain ⟨e1, e2⟩ := addr_of_cell ⟨_, h0⟩ (hat k x hx).1
      exact ⟨a.block, a.off, by rw [← e1], e2⟩
    · obtain ⟨k, hk⟩ := List.getElem?_of_mem hz
      exact (hat k z hk).2
theorem open_factsAt {fuel : Nat} {v : Value} {x : DataW H × List MemPlace} (h : DataW.trod enc Tryd.prog w base spare held fuel 43 [v] = some x) (hs : Sized Tryd.prog 43 x.1) : ∃ l, FactsAt w v l ∧ ∀ z ∈ l, I64 z.1 ∧ I64 z.2 := by
  rcases open_slice_fields Tryd.underlying43 Tryd.underlying54 (by kernel_rfl) (by kernel_rfl) h with ⟨hv, _⟩ | ⟨a, len, cap, m, D, Pl, hcs, hb, hl, hm, hmm, hx, hi⟩
  · injection hv with hv
    subst hv
    exact ⟨[], ⟨none, 0, rfl, by simp, fun k x hx => by simp at hx⟩, fun z hz => by cases hz⟩
  · injection hcs with hcs
    subst hcs
    subst hx
    have hlen := sized_len hs Tryd.underlying43
    have hby : Tryd.prog.bytesOf 54 = 16 := by kernel_rfl
    simp only [List.length_map, List.length_range, hby] at hlen
    have hml : len ≤ m := by rw [hmm]; split <;> omega
    have hcell : ∀ i, i < len → ∃ z : Fact, (w.cell? (a.add (i * 2 + 0)) = some (.int .i64 z.1) ∧ w.cell? (a.add (i * 2 + 1)) = some (.int .i64 z.2)) ∧ I64 z.1 ∧ I64 z.2 := by
      intro i hi'
      obtain ⟨ys, n', _, _, hyl, hf⟩ := hi i (by omega)
      obtain ⟨v0, y0, c0, _, t0⟩ := hf 0 _ rfl
      obtain ⟨v1, y1, c1, _, t1⟩ := hf 1 _ rfl
      obtain ⟨z0, hz0, _, wz0⟩ := DataW.trod_int Tryd.underlying3 t0
      obtain ⟨z1, hz1, _, wz1⟩ := DataW.trod_int Tryd.underlying3 t1
      injection hz0 with hz0
      injection hz1 with hz1
      subst hz0 hz1
      exact ⟨(z0, z1), ⟨c0, c1⟩, I64.of wz0, I64.of wz1⟩
    obtain ⟨l, hl', hat⟩ := list_of len (fun i (z : Fact) => (w.cell? (a.add (i * 2 + 0)) = some (.int .i64 z.1) ∧ w.cell? (a.add (i * 2 + 1)) = some (.int .i64 z.2)) ∧ I64 z.1 ∧ I64 z.2) hcell
    refine ⟨l, ⟨some a, cap, by rw [hl'], by rw [hl']; exact hlen, fun k x hx => ?_⟩, fun z hz => ?_⟩
    · obtain ⟨z0, ⟨h0, _⟩, _⟩ := hcell 0 (by have := (List.getElem?_eq_some_iff.1 hx).1; omega)
      obtain ⟨e1, e2⟩ := addr_of_cell ⟨_, h0⟩ (hat k x hx).1.1
      obtain ⟨_, e3⟩ := addr_of_cell ⟨_, h0⟩ (hat k x hx).1.2
      exact ⟨a.block, a.off, by rw [← e1], e2, e3⟩
    · obtain ⟨k, hk⟩ := List.getElem?_of_mem hz
      exact (hat k z hk).2
theorem open_nogoodsAt {fuel : Nat} {v : Value} {x : DataW H × List MemPlace} (h : DataW.trod enc Tryd.prog w base spare held fuel 23 [v] = some x) (hs : Sized Tryd.prog 23 x.1) : ∃ l, NogoodsAt w v l ∧ ∀ z ∈ l, I64 z.2 ∧ ∀ f ∈ z.1, I64 f.1 ∧ I64 f.2 := by
  rcases open_slice_fields Tryd.underlying23 Tryd.underlying45 (by kernel_rfl) (by kernel_rfl) h with ⟨hv, _⟩ | ⟨a, len, cap, m, D, Pl, hcs, hb, hl, hm, hmm, hx, hi⟩
  · injection hv with hv
    subst hv
    exact ⟨[], ⟨none, 0, rfl, by simp, fun k x hx => by simp at hx⟩, fun z hz => by cases hz⟩
  · injection hcs with hcs
    subst hcs
    subst hx
    have hlen := sized_len hs Tryd.underlying23
    have hby : Tryd.prog.bytesOf 45 = 32 := by kernel_rfl
    simp only [List.length_map, List.length_range, hby] at hlen
    have hml : len ≤ m := by rw [hmm]; split <;> omega
    have hcell : ∀ i, i < len → ∃ z : Nogood, (∃ fv, w.cell? (a.add (i * 2 + 0)) = some fv ∧ FactsAt w fv z.1 ∧ w.cell? (a.add (i * 2 + 1)) = some (.int .i64 z.2)) ∧ I64 z.2 ∧ ∀ f ∈ z.1, I64 f.1 ∧ I64 f.2 := by
      intro i hi'
      obtain ⟨ys, n', hD, _, hyl, hf⟩ := hi i (by omega)
      have hsi : Sized Tryd.prog 45 (D i) := sized_elem hs Tryd.underlying23 (List.mem_map.2 ⟨i, by simpa using hi', rfl⟩)
      rw [hD] at hsi
      obtain ⟨v0, y0, c0, hy0, t0⟩ := hf 0 _ rfl
      obtain ⟨v1, y1, c1, _, t1⟩ := hf 1 _ rfl
      obtain ⟨fl, hfl, hfw⟩ := open_factsAt t0 (sized_field hsi Tryd.underlying45 (j := 0) rfl (by simp [hy0]))
      obtain ⟨z1, hz1, _, wz1⟩ := DataW.trod_int Tryd.underlying3 t1
      injection hz1 with hz1
      subst hz1
      exact ⟨(fl, z1), ⟨v0, c0, hfl, c1⟩, I64.of wz1, hfw⟩
    obtain ⟨l, hl', hat⟩ := list_of len _ hcell
    refine ⟨l, ⟨some a, cap, by rw [hl'], by rw [hl']; exact hlen, fun k x hx => ?_⟩, fun z hz => ?_⟩
    · obtain ⟨z0, ⟨fv0, h0, _⟩, _⟩ := hcell 0 (by have := (List.getElem?_eq_some_iff.1 hx).1; omega)
      obtain ⟨⟨fv, h1, h2, h3⟩, _⟩ := hat k x hx
      obtain ⟨e1, e2⟩ := addr_of_cell ⟨_, h0⟩ h1
      obtain ⟨_, e3⟩ := addr_of_cell ⟨_, h0⟩ h3
      exact ⟨a.block, a.off, fv, by rw [← e1], e2, h2, e3⟩
    · obtain ⟨k, hk⟩ := List.getElem?_of_mem hz
      exact (hat k z hk).2
set_option maxRecDepth 100000 in
theorem open_cert {r : Reach} {b0 : Nat} {v : Value} {d : DataW H} {p : List MemPlace} (hv : Value.okWide Tryd.prog w r b0 25 v) (h : DataW.Trod enc Tryd.prog w base spare held 25 v d p) (hs : Sized Tryd.prog 25 d) :
    ∃ bd nv l, v = .agg #[.int .i64 bd, nv] ∧ I64 bd ∧ NogoodsAt w nv l ∧ ∀ z ∈ l, I64 z.2 ∧ ∀ f ∈ z.1, I64 f.1 ∧ I64 f.2 := by
  obtain ⟨c0, c1, y0, y1, m, rfl, rfl, rfl, hy0, hy1⟩ := open_agg2 Tryd.underlying25 (by kernel_rfl) (by kernel_rfl) hv h
  obtain ⟨z, hz, _, wz⟩ := DataW.trod_int Tryd.underlying3 hy0
  injection hz with hz
  subst hz
  obtain ⟨l, hl, hw⟩ := open_nogoodsAt hy1 (sized_field hs Tryd.underlying25 (j := 1) rfl rfl)
  exact ⟨z, c1, l, rfl, I64.of wz, hl, hw⟩
end Go.Proofs.YticdfbhbbapbdaaDoor
