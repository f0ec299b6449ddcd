/- Reading beside a block that is written: 'hush cb w' is the world with that block emptied. -/
import Derived.Test.YticdfbhbbapbdaaDoorCopyK
namespace Go.Proofs.YticdfbhbbapbdaaDoor
open Go.RowKit

def hush (cb : Nat) (w : World) : World := w.setRow cb #[]
theorem hush_size (cb : Nat) (w : World) : (hush cb w).heap.size = w.heap.size := by simp [hush, World.setRow]
theorem hush_grown (cb : Nat) (w : World) : w.grownBy (hush cb w) (some cb) := setRow_grown w cb #[]
theorem hush_other {cb k : Nat} (w : World) (h : k ≠ cb) : (hush cb w).heap[k]? = w.heap[k]? := setRow_other w cb k #[] h
theorem hush_cell {cb : Nat} {w : World} {p : Addr} {v : Value} (h : (hush cb w).cell? p = some v) : w.cell? p = some v ∧ p.block ≠ cb := by
  by_cases hb : p.block = cb
  · exfalso
    cases hq : w.heap[cb]? with
    | none =>
      have : ¬ cb < w.heap.size := by
        intro hlt
        rw [Array.getElem?_eq_getElem hlt] at hq
        cases hq
      have h2 := lt_of_cell h
      rw [hush_size, hb] at h2
      exact this h2
    | some o =>
      cases o with
      | cells cs t f =>
        have e := setRow_heap w cb cs #[] t f hq
        unfold World.cell? at h
        rw [hb] at h
        unfold hush at h
        rw [e] at h
        revert h
        cases hsp : p.spot <;> simp
      | _ =>
        have e : (hush cb w).heap[cb]? = w.heap[cb]? := by
          unfold hush World.setRow
          simp only [Array.getElem?_modify, hq]
          simp
        unfold World.cell? at h
        rw [hb, e, hq] at h
        simp at h
  · refine ⟨?_, hb⟩
    unfold World.cell? at h ⊢
    rwa [hush_other w hb] at h
theorem IntsAt.unhush {cb : Nat} {w : World} {v : Value} {l : List Int} (h : IntsAt (hush cb w) v l) : IntsAt w v l := by
  obtain ⟨A, c, hv, hl, h⟩ := h
  refine ⟨A, c, hv, hl, fun k x hx => ?_⟩
  obtain ⟨b, off, hA, h0⟩ := h k x hx
  exact ⟨b, off, hA, (hush_cell h0).1⟩
theorem FactsAt.unhush {cb : Nat} {w : World} {v : Value} {l : List Fact} (h : FactsAt (hush cb w) v l) : FactsAt w v l := by
  obtain ⟨A, c, hv, hl, h⟩ := h
  refine ⟨A, c, hv, hl, fun k x hx => ?_⟩
  obtain ⟨b, off, hA, h0, h1⟩ := h k x hx
  exact ⟨b, off, hA, (hush_cell h0).1, (hush_cell h1).1⟩
theorem hush_below {cb : Nat} {w w' : World} {a a' : Array Value} {t : TypeId} {f : Nat × Nat} (hg : w.grownBy w' (some cb)) (h : w.heap[cb]? = some (.cells a t f)) (h' : w'.heap[cb]? = some (.cells a' t f)) : Below (hush cb w).heap.size (hush cb w) (hush cb w') := by
  refine ⟨hg.os, hg.tape, hg.output, by rw [hush_size, hush_size]; exact hg.size, fun i hi => ?_⟩
  rw [hush_size] at hi
  by_cases hic : i = cb
  · subst hic
    rw [hush, hush, setRow_heap w i a #[] t f h, setRow_heap w' i a' #[] t f h']
  · rw [hush_other _ hic, hush_other _ hic]
    exact hg.block i hi (fun e => hic (by injection e))
theorem grown_of_below {w w' : World} (h : Below w.heap.size w w') (row : Option Nat) : w.grownBy w' row := ⟨h.os, h.tape, h.output, h.size, fun i hi _ => h.block i hi⟩
theorem OwnF.hush {w : World} {base cb : Nat} {v : Value} {l : List Fact} (h : OwnF w base v l) (hc : cb < base) : OwnF (hush cb w) base v l := by
  refine World.ownsRow.kept h (hush_grown cb w) ?_
  cases ho : v.ownBlock with
  | none => exact .inl rfl
  | some k => exact .inr (fun e => by injection e with e; have := (h.lt k ho).1; omega)

/-- a block after a store into one of its cells -/
theorem set_block {w : World} {g i : Nat} {cur : Array Value} {t : TypeId} {f : Nat × Nat} (hg : w.heap[g]? = some (.cells cur t f)) (v : Value) (new : Array Value) (hn : cur.setIfInBounds i v = new) : (w.setCell ⟨g, i, none⟩ v).heap[g]? = some (.cells new t f) := by
  rw [setCell_eq_setRow w g i cur t f v hg, hn]
  exact setRow_heap w g cur new t f hg
theorem set_grown {w : World} {g i : Nat} {cur : Array Value} {t : TypeId} {f : Nat × Nat} (hg : w.heap[g]? = some (.cells cur t f)) (v : Value) : w.grownBy (w.setCell ⟨g, i, none⟩ v) (some g) := by
  rw [setCell_eq_setRow w g i cur t f v hg]
  exact setRow_grown _ _ _
end Go.Proofs.YticdfbhbbapbdaaDoor
