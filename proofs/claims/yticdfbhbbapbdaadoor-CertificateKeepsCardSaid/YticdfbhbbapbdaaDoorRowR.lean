/- Rows of nogoods of the call's own whose facts lie in an older world. -/
import Derived.Test.YticdfbhbbapbdaaDoorSortC
import Derived.Test.YticdfbhbbapbdaaDoorValue
namespace Go.Proofs.YticdfbhbbapbdaaDoor
open Go.RowKit

/-- v is a row of the call's own in w that holds the nogoods l, their facts lie in w0 -/
def OwnR (w0 w : World) (base : Nat) (v : Value) (l : List Nogood) : Prop :=
  ∃ its : List Item, its.map (·.2) = l ∧ w.ownsRow base 45 2 v l.length (itemCells its) ∧ ∀ x ∈ its, FactsAt w0 (.slice x.1.1 x.1.2.1 x.1.2.2) x.2.1
theorem OwnR.nil_ (w0 w : World) (base : Nat) : OwnR w0 w base (.slice none 0 0) [] := ⟨[], rfl, ⟨rfl, .inl ⟨rfl, rfl⟩⟩, fun x hx => by cases hx⟩
theorem OwnR.form {w0 w : World} {base : Nat} {v : Value} {l : List Nogood} (h : OwnR w0 w base v l) : ∃ A c, v = .slice A l.length c := by
  obtain ⟨its, _, h, _⟩ := h
  rcases h.2 with ⟨rfl, h0⟩ | ⟨g, cap, cur, rfl, _⟩
  · exact ⟨none, 0, by rw [h0]⟩
  · exact ⟨_, _, rfl⟩
theorem OwnR.lt {w0 w : World} {base : Nat} {v : Value} {l : List Nogood} (h : OwnR w0 w base v l) : ∀ r, v.ownBlock = some r → base ≤ r ∧ r < w.heap.size := by
  obtain ⟨_, _, ho, _⟩ := h
  exact fun r hr => ho.lt r hr
theorem OwnR.kept {w0 w w' : World} {base : Nat} {v : Value} {l : List Nogood} {row : Option Nat} (h : OwnR w0 w base v l) (hg : w.grownBy w' row) (hr : ∀ r, row = some r → r < base) : OwnR w0 w' base v l := by
  obtain ⟨its, h1, h2, h3⟩ := h
  refine ⟨its, h1, h2.kept hg ?_, h3⟩
  cases ho : v.ownBlock with
  | none => exact .inl rfl
  | some k => exact .inr (fun e => by have a := (h2.lt k ho).1; have b := hr k e.symm; omega)
theorem OwnR.keep {w0 w w' : World} {base : Nat} {v : Value} {l : List Nogood} (h : OwnR w0 w base v l) (hb : Below w.heap.size w w') : OwnR w0 w' base v l := h.kept (grown_of_below hb none) (fun r e => by cases e)
theorem OwnR.mono {w0 w : World} {base base' : Nat} {v : Value} {l : List Nogood} (h : OwnR w0 w base v l) (hb : base' ≤ base) : OwnR w0 w base' v l := by
  obtain ⟨its, h1, h2, h3⟩ := h
  exact ⟨its, h1, own_mono h2 hb, h3⟩
theorem OwnR.nogoodsG {w0 w : World} {base : Nat} {v : Value} {l : List Nogood} (h : OwnR w0 w base v l) (hb : ∀ u x, FactsAt w0 u x → FactsAt w u x) (hl : l.length * 32 ≤ 140737488355328) : NogoodsAt w v l := by
  obtain ⟨its, h1, ho, h3⟩ := h
  have hlen : its.length = l.length := by rw [← h1]; simp
  rcases id ho.2 with ⟨rfl, h0⟩ | ⟨g, cap, cur, rfl, _⟩
  · have hnil : l = [] := List.length_eq_zero_iff.1 h0
    subst hnil
    exact ⟨none, 0, rfl, by simp, fun k x hx => by simp at hx⟩
  · refine ⟨some ⟨g, 0, none⟩, cap, rfl, hl, fun k x hx => ?_⟩
    have hk : k < l.length := (List.getElem?_eq_some_iff.1 hx).1
    have hit : its[k]? = some its[k] := List.getElem?_eq_getElem (by omega)
    have hx2 : its[k].2 = x := by
      rw [← h1, List.getElem?_map, hit] at hx
      injection hx
    obtain ⟨a, b⟩ := itemCells_at its k _ hit
    refine ⟨g, 0, _, rfl, ?_, hx2 ▸ hb _ _ (h3 its[k] (List.getElem_mem _)), ?_⟩
    · rw [Nat.zero_add, ho.cellAt (k * 2) (by omega)]
      exact a
    · rw [Nat.zero_add, ho.cellAt (k * 2 + 1) (by omega), ← hx2]
      exact b

theorem OwnR.nogoods {w0 w : World} {base : Nat} {v : Value} {l : List Nogood} (h : OwnR w0 w base v l) (hb : Below w0.heap.size w0 w) (hl : l.length * 32 ≤ 140737488355328) : NogoodsAt w v l := h.nogoodsG (fun _ _ hf => hf.keep hb) hl

theorem reads_newN (W : World) (x : Item) : Reads (W.alloc (.cells #[.slice x.1.1 x.1.2.1 x.1.2.2, .int .i64 x.2.2] 45)) (W.heap.size + 1) 2 (some ⟨W.heap.size, 0, none⟩) 1 (itemCells [x]) :=
  ⟨rfl, fun _ => ⟨_, rfl, by simp, cells_at (heap_alloc_new W (.cells #[.slice x.1.1 x.1.2.1 x.1.2.2, .int .i64 x.2.2] 45)) 0 _ (fun j u hu => by simpa [itemCells] using hu)⟩⟩

/-- 'out = append(out, nogood)' on a row of the call's own -/
theorem wpList_append_nogood {ops : Array Oper} {rest : List Oper} {o : Oper} {a : Act} {Q : Exit → Act → World → Prop} (hgd : o.guard = none) (s y : Operand)
    (ho : o.op = .call { callee := .builtin .append, args := #[s, y], argTypes := #[23, 23] })
    (w0 W : World) (base : Nat) (v : Value) (l : List Nogood) (xA : Option Addr) (xn xc : Nat) (x : Nogood) (hs : a.eval s = v) (hown : OwnR w0 W base v l) (hx : a.eval y = .slice (some ⟨W.heap.size, 0, none⟩) 1 1)
    (hlen : (l.length + 1) * 32 ≤ 140737488355328) (hbase : base ≤ W.heap.size) (hf : FactsAt w0 (.slice xA xn xc) x.1)
    (h : ∀ v' w', OwnR w0 w' base v' (l ++ [x]) → (W.alloc (.cells #[.slice xA xn xc, .int .i64 x.2] 45)).grownBy w' v.ownBlock → wpList Tryd.prog ops Q rest (a.put o.dst v') w') :
    wpList Tryd.prog ops Q (o :: rest) a (W.alloc (.cells #[.slice xA xn xc, .int .i64 x.2] 45)) := by
  obtain ⟨i0, hi0, hz0, hz1, hz2⟩ := info_parts nogoodInfo
  obtain ⟨its, h1, h2, h3⟩ := hown.keep (belowA (Below.refl _ _) (.cells #[.slice xA xn xc, .int .i64 x.2] 45))
  refine wpList_append_any _ hgd s y _ ho base 45 i0 _ 2 32 Tryd.underlying23 hi0 hz0 hz1 hz2 rfl (by omega) v l.length (itemCells its) hs h2 _ _ 1 1 (itemCells [((xA, xn, xc), x)]) hx (reads_newN W ((xA, xn, xc), x)) (itemCells_one _) (by simp only [maxLen]; omega) hlen (by simp; omega) ?_
  intro v' w' g1 g2 _
  refine h v' w' ⟨its ++ [((xA, xn, xc), x)], by simp [h1], ?_, fun z hz => ?_⟩ g2
  · rw [itemCells_append, List.length_append]; exact g1
  · rcases List.mem_append.1 hz with hz | hz
    · exact h3 z hz
    · simp at hz; subst hz; exact hf
end Go.Proofs.YticdfbhbbapbdaaDoor
