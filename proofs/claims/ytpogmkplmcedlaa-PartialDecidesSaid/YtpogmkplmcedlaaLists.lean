/- Lists of lists of facts: reading them; rows of them that the call owns. -/
import Derived.Test.YtpogmkplmcedlaaAppend
import Derived.Test.YtpogmkplmcedlaaOpen
namespace Go.Proofs.Ytpogmkplmcedlaa
open Go.RowKit

/-- the slice value v reads as the list of lists of facts -/
def ListsAt (w : World) (v : Value) (l : List (List Fact)) : Prop :=
  ∃ A c, v = .slice A l.length c ∧ l.length * 24 ≤ 140737488355328 ∧ ∀ k x, l[k]? = some x → ∃ b off fv, A = some ⟨b, off, none⟩ ∧ w.cell? ⟨b, off + k, none⟩ = some fv ∧ FactsAt w fv x
theorem ListsAt.keep {w w' : World} {v : Value} {l : List (List Fact)} (hb : Below w.heap.size w w') (h : ListsAt w v l) : ListsAt w' v l := by
  obtain ⟨A, c, hv, hl, h⟩ := h
  refine ⟨A, c, hv, hl, fun k x hx => ?_⟩
  obtain ⟨b, off, fv, hA, h0, hf⟩ := h k x hx
  exact ⟨b, off, fv, hA, kept hb h0, hf.keep hb⟩
theorem ListsAt.form {w : World} {v : Value} {l : List (List Fact)} (h : ListsAt w v l) : ∃ A n c, v = .slice A n c ∧ n = l.length ∧ n * 24 ≤ 140737488355328 := by
  obtain ⟨A, c, hv, hl, _⟩ := h
  exact ⟨A, _, c, hv, rfl, hl⟩
theorem ListsAt.at {w : World} {A : Option Addr} {n c : Nat} {l : List (List Fact)} (h : ListsAt w (.slice A n c) l) {k : Nat} (hk : k < n) :
    ∃ b off fA fn fc fs, A = some ⟨b, off, none⟩ ∧ w.cell? ⟨b, off + k, none⟩ = some (.slice fA fn fc) ∧ fn = fs.length ∧ fn ≤ 140737488355328 ∧ FactsAt w (.slice fA fn fc) fs ∧ l[k]? = some fs ∧ l.drop k = fs :: l.drop (k + 1) := by
  obtain ⟨A', c', hv, hl, h⟩ := h
  injection hv with h1 h2 h3
  subst h1 h3
  obtain ⟨fs, hx, hd⟩ := some_at h2 hk
  obtain ⟨b, off, fv, hA, h0, hf⟩ := h k _ hx
  obtain ⟨fA, fn, fc, rfl, hfn, hfl⟩ := hf.form
  exact ⟨b, off, fA, fn, fc, fs, hA, h0, hfn, hfl, hf, hx, hd⟩

/-- facts that lie below a block -/
def FactsLow (w : World) (base : Nat) (v : Value) (l : List Fact) : Prop :=
  ∃ A c, v = .slice A l.length c ∧ l.length * 16 ≤ 140737488355328 ∧ ∀ k x, l[k]? = some x → ∃ b off, b < base ∧ A = some ⟨b, off, none⟩ ∧ w.cell? ⟨b, off + k * 2, none⟩ = some (.int .i64 x.1) ∧ w.cell? ⟨b, off + k * 2 + 1, none⟩ = some (.int .i64 x.2)
theorem FactsLow.of {w : World} {v : Value} {l : List Fact} (h : FactsAt w v l) : FactsLow w w.heap.size v l := by
  obtain ⟨A, c, hv, hl, h⟩ := h
  refine ⟨A, c, hv, hl, fun k x hx => ?_⟩
  obtain ⟨b, off, hA, h0, h1⟩ := h k x hx
  exact ⟨b, off, lt_of_cell h0, hA, h0, h1⟩
theorem FactsLow.facts {w : World} {base : Nat} {v : Value} {l : List Fact} (h : FactsLow w base v l) : FactsAt w v l := by
  obtain ⟨A, c, hv, hl, h⟩ := h
  refine ⟨A, c, hv, hl, fun k x hx => ?_⟩
  obtain ⟨b, off, _, hA, h0, h1⟩ := h k x hx
  exact ⟨b, off, hA, h0, h1⟩
theorem FactsLow.below {w w' : World} {base : Nat} {v : Value} {l : List Fact} (h : FactsLow w base v l) (hb : Below base w w') : FactsLow w' base v l := by
  obtain ⟨A, c, hv, hl, h⟩ := h
  refine ⟨A, c, hv, hl, fun k x hx => ?_⟩
  obtain ⟨b, off, hlt, hA, h0, h1⟩ := h k x hx
  refine ⟨b, off, hlt, hA, ?_, ?_⟩
  · rw [hb.cell (p := ⟨b, off + k * 2, none⟩) hlt]; exact h0
  · rw [hb.cell (p := ⟨b, off + k * 2 + 1, none⟩) hlt]; exact h1
/-- an entry of a row of lists: facts from before the call, or a row of facts of the call's own -/
def EntryAt (w : World) (base : Nat) (v : Value) (l : List Fact) : Prop := FactsLow w base v l ∨ (OwnF w base v l ∧ l.length * 16 ≤ 140737488355328)
theorem EntryAt.facts {w : World} {base : Nat} {v : Value} {l : List Fact} (h : EntryAt w base v l) : FactsAt w v l := by
  rcases h with h | ⟨h, hl⟩
  · exact h.facts
  · exact OwnF.facts h hl
theorem EntryAt.keep {w w' : World} {base : Nat} {v : Value} {l : List Fact} (h : EntryAt w base v l) (hb : Below w.heap.size w w') (hbase : base ≤ w.heap.size) : EntryAt w' base v l := by
  rcases h with h | ⟨h, hl⟩
  · exact .inl (h.below (hb.mono hbase))
  · exact .inr ⟨ownF_keep h hb, hl⟩
/-- .. behind an append onto a row of another type -/
theorem EntryAt.grown {w w' : World} {base : Nat} {v u : Value} {l : List Fact} {e : TypeId} {size n : Nat} {xs : List Value} (h : EntryAt w base v l) (hown : w.ownsRow base e size u n xs) (he : e ≠ 56) (hg : w.grownBy w' u.ownBlock) (hbase : base ≤ w.heap.size) : EntryAt w' base v l := by
  rcases h with h | ⟨h, hl⟩
  · refine .inl (h.below ⟨hg.os, hg.tape, hg.output, hg.size, fun i hi => hg.block i (by omega) (fun e1 => ?_)⟩)
    have := (hown.lt i e1.symm).1
    omega
  · refine .inr ⟨World.ownsRow.kept h hg ?_, hl⟩
    rcases h.2 with ⟨rfl, _⟩ | ⟨g, cap, cur, rfl, _, hh, _⟩
    · exact .inl rfl
    · refine .inr (fun e1 => ?_)
      rcases hown.2 with ⟨rfl, _⟩ | ⟨g', cap', cur', rfl, _, hh', _⟩
      · simp [Value.ownBlock] at e1
      · have : g = g' := by simpa [Value.ownBlock] using e1
        subst this
        rw [hh] at hh'
        injection hh' with hh'
        injection hh' with _ h2 _
        exact he h2.symm
/-- the slice v is a row of the call's own that holds the lists l -/
def OwnL (w : World) (base : Nat) (v : Value) (l : List (List Fact)) : Prop :=
  ∃ vs : List Value, vs.length = l.length ∧ (∀ u ∈ vs, u.oneCell' = true) ∧ w.ownsRow base 22 1 v l.length vs ∧ ∀ (k : Nat) (x : List Fact), l[k]? = some x → ∃ fv, vs[k]? = some fv ∧ EntryAt w base fv x
theorem OwnL.nil_ (w : World) (base : Nat) : OwnL w base (.slice none 0 0) [] := ⟨[], rfl, (fun u hu => by cases hu), ⟨rfl, .inl ⟨rfl, rfl⟩⟩, fun k x hx => by simp at hx⟩
theorem OwnL.form {w : World} {base : Nat} {v : Value} {l : List (List Fact)} (h : OwnL w base v l) : ∃ A c, v = .slice A l.length c := by
  obtain ⟨vs, _, _, h, _⟩ := h
  rcases h.2 with ⟨rfl, h0⟩ | ⟨g, cap, cur, rfl, _⟩
  · exact ⟨none, 0, by rw [h0]⟩
  · exact ⟨_, _, rfl⟩
theorem OwnL.lists {w : World} {base : Nat} {v : Value} {l : List (List Fact)} (h : OwnL w base v l) (hl : l.length * 24 ≤ 140737488355328) : ListsAt w v l := by
  obtain ⟨vs, hvl, _, ho, he⟩ := h
  rcases id ho.2 with ⟨rfl, h0⟩ | ⟨g, cap, cur, rfl, _⟩
  · have hnil : l = [] := List.length_eq_zero_iff.1 h0
    subst hnil
    exact ⟨none, 0, rfl, by simp, fun k x hx => by simp at hx⟩
  · refine ⟨some ⟨g, 0, none⟩, cap, rfl, hl, fun k x hx => ?_⟩
    obtain ⟨fv, hfv, hent⟩ := he k x hx
    have hk : k < l.length := (List.getElem?_eq_some_iff.1 hx).1
    refine ⟨g, 0, fv, rfl, ?_, hent.facts⟩
    rw [Nat.zero_add, ho.cellAt k (by omega)]
    exact hfv
theorem OwnL.keep {w w' : World} {base : Nat} {v : Value} {l : List (List Fact)} (h : OwnL w base v l) (hb : Below w.heap.size w w') (hbase : base ≤ w.heap.size) : OwnL w' base v l := by
  obtain ⟨vs, hvl, h1, ho, he⟩ := h
  refine ⟨vs, hvl, h1, ho.kept (row := none) ⟨hb.os, hb.tape, hb.output, hb.size, fun i hi _ => hb.block i hi⟩ (by cases v.ownBlock <;> simp), fun k x hx => ?_⟩
  obtain ⟨fv, hfv, hent⟩ := he k x hx
  exact ⟨fv, hfv, hent.keep hb hbase⟩
theorem listInfo : (Try.prog.info? 22).map (fun i => (i.zero, i.size, i.bytes)) = some (some (.slice none 0 0), 1, 24) := by kernel_rfl

/-- 'out = append(out, list)' on a row of the call's own -/
theorem wpList_append_list {ops : Array Oper} {rest : List Oper} {o : Oper} {a : Act} {Q : Exit → Act → World → Prop} (hgd : o.guard = none) (s x : Operand)
    (ho : o.op = .call { callee := .builtin .append, args := #[s, x], argTypes := #[35, 35] })
    (W : World) (base : Nat) (v : Value) (l : List (List Fact)) (A : Option Addr) (n c : Nat) (f : List Fact) (hs : a.eval s = v) (hown : OwnL W base v l) (hent : EntryAt W base (.slice A n c) f) (hx : a.eval x = .slice (some ⟨W.heap.size, 0, none⟩) 1 1)
    (hlen : (l.length + 1) * 24 ≤ 140737488355328) (hbase : base ≤ W.heap.size)
    (h : ∀ v' w', OwnL w' base v' (l ++ [f]) → (W.alloc (.cells #[.slice A n c] 22)).grownBy w' v.ownBlock → (∀ k, v.ownBlock = some k → base ≤ k) → wpList Try.prog ops Q rest (a.put o.dst v') w') :
    wpList Try.prog ops Q (o :: rest) a (W.alloc (.cells #[.slice A n c] 22)) := by
  obtain ⟨i0, hi0, hz0, hz1, hz2⟩ := info_parts listInfo
  have hB : Below W.heap.size W (W.alloc (.cells #[.slice A n c] 22)) := belowA (Below.refl _ _) _
  obtain ⟨vs, hvl, hv1, hor, he⟩ := hown.keep hB hbase
  have hent' := hent.keep hB hbase
  have hrd : Reads (W.alloc (.cells #[.slice A n c] 22)) (W.heap.size + 1) 1 (some ⟨W.heap.size, 0, none⟩) 1 [.slice A n c] := by
    refine ⟨rfl, fun _ => ⟨_, rfl, by simp, fun j u hu => ?_⟩⟩
    have hj : j = 0 := by have := (List.getElem?_eq_some_iff.1 hu).1; simp at this; omega
    subst hj
    simp at hu
    subst hu
    rw [add_plain]
    simp
  refine wpList_append_any _ hgd s x _ ho base 22 i0 _ 1 24 Try.underlying35 hi0 hz0 hz1 hz2 rfl (by omega) v l.length vs hs hor _ _ 1 1 [.slice A n c] hx hrd (fun u hu => by simp at hu; subst hu; rfl) (by simp only [maxLen]; omega) hlen (by simp; omega) ?_
  intro v' w' h1 h2 _
  refine h v' w' ?_ h2 (fun k hk => (hor.lt k hk).1)
  refine ⟨vs ++ [.slice A n c], by simp [hvl], fun u hu => ?_, ?_, fun k x hx => ?_⟩
  · rcases List.mem_append.1 hu with hu | hu
    · exact hv1 u hu
    · simp at hu; subst hu; rfl
  · rw [List.length_append]; exact h1
  · by_cases hk : k < l.length
    · rw [List.getElem?_append_left hk] at hx
      obtain ⟨fv, hfv, hent2⟩ := he k x hx
      exact ⟨fv, by rw [List.getElem?_append_left (by omega)]; exact hfv, hent2.grown hor (by decide) h2 (by simp; omega)⟩
    · rw [List.getElem?_append_right (by omega)] at hx
      have hk0 : k - l.length = 0 := by have := (List.getElem?_eq_some_iff.1 hx).1; simp at this; omega
      rw [hk0] at hx
      simp at hx
      subst hx
      exact ⟨_, by rw [List.getElem?_append_right (by omega), hvl, hk0]; rfl, hent'.grown hor (by decide) h2 (by simp; omega)⟩

variable {H : Type} {enc : TypeId × Value → H} {w : World} {base : Nat} {spare : Nat → Bool} {held : Bool}
theorem open_listsAt {fuel : Nat} {v : Value} {x : DataW H × List MemPlace} (h : DataW.trod enc Try.prog w base spare held fuel 35 [v] = some x) (hs : Sized Try.prog 35 x.1) : ∃ l, ListsAt w v l := by
  rcases Deep.open_slice Try.underlying35 h with ⟨hv, _⟩ | ⟨a, len, cap, m, n, D, Pl, hcs, hb, hl, hm, hmm, hx, hi⟩
  · injection hv with hv
    subst hv
    exact ⟨[], ⟨none, 0, rfl, by simp, fun k x hx => by simp at hx⟩⟩
  · injection hcs with hcs
    subst hcs
    subst hx
    have hlen := sized_len hs Try.underlying35
    have hby : Try.prog.bytesOf 22 = 24 := by kernel_rfl
    have hcl : Try.prog.cellsOf 22 = 1 := by kernel_rfl
    simp only [List.length_map, List.length_range, hby] at hlen
    have hml : len ≤ m := by rw [hmm]; split <;> omega
    have hcell : ∀ i, i < len → ∃ z : List Fact, ∃ fv, w.cell? (a.add i) = some fv ∧ FactsAt w fv z := by
      intro i hi'
      obtain ⟨cs', hc, ht'⟩ := hi i (by omega)
      rw [hcl] at hc
      obtain ⟨_, hcl', hat⟩ := World.cells?_some hc
      have hsi : Sized Try.prog 22 (D i) := sized_elem hs Try.underlying35 (List.mem_map.2 ⟨i, by simpa using hi', rfl⟩)
      obtain ⟨c0, rfl⟩ : ∃ c0, cs' = [c0] := List.length_eq_one_iff.1 hcl'
      obtain ⟨z, hz, _⟩ := open_factsAt ht' hsi
      have := hat 0 (by omega)
      simp [Go.Deep.add_add] at this
      exact ⟨z, c0, this, hz⟩
    obtain ⟨l, hl', hat⟩ := list_of len _ hcell
    refine ⟨l, ⟨some a, cap, by rw [hl'], by rw [hl']; exact hlen, fun k x hx => ?_⟩⟩
    obtain ⟨z0, fv0, h0, _⟩ := hcell 0 (by have := (List.getElem?_eq_some_iff.1 hx).1; omega)
    obtain ⟨fv, h1, h2⟩ := hat k x hx
    obtain ⟨e1, e2⟩ := addr_of_cell ⟨_, h0⟩ h1
    exact ⟨a.block, a.off, fv, by rw [← e1], e2, h2⟩
end Go.Proofs.Ytpogmkplmcedlaa
