/- Rows of facts that the call owns. -/
import Derived.Test.YticdfbhbbapbdaaDoorBase
import Derived.Laws.OwnMore
import Derived.Deep.AppendLies
namespace Go.Proofs.YticdfbhbbapbdaaDoor
open Go.RowKit

def encF (x : Fact) : List Value := [.int .i64 x.1, .int .i64 x.2]
def factCells : List Fact → List Value
  | [] => []
  | x :: r => .int .i64 x.1 :: .int .i64 x.2 :: factCells r
theorem factCells_length (l : List Fact) : (factCells l).length = l.length * 2 := by
  induction l with
  | nil => rfl
  | cons x r ih => simp only [factCells, List.length_cons, ih]; omega
theorem factCells_append (a b : List Fact) : factCells (a ++ b) = factCells a ++ factCells b := by
  induction a with
  | nil => rfl
  | cons x r ih => simp [factCells, ih]
theorem factCells_at (l : List Fact) : ∀ (k : Nat) (x : Fact), l[k]? = some x → (factCells l)[k * 2]? = some (.int .i64 x.1) ∧ (factCells l)[k * 2 + 1]? = some (.int .i64 x.2) := by
  induction l with
  | nil => intro k x h; simp at h
  | cons y r ih =>
    intro k x h
    cases k with
    | zero => simp at h; subst h; simp [factCells]
    | succ k =>
      simp at h
      obtain ⟨h1, h2⟩ := ih k x h
      rw [show (k + 1) * 2 = k * 2 + 1 + 1 from by omega, show k * 2 + 1 + 1 + 1 = (k * 2 + 1) + 1 + 1 from rfl]
      simp only [factCells, List.getElem?_cons_succ]
      exact ⟨h1, h2⟩
theorem factCells_one (l : List Fact) : ∀ u ∈ factCells l, u.oneCell' = true := by
  induction l with
  | nil => intro u h; cases h
  | cons x r ih =>
    intro u h
    simp only [factCells, List.mem_cons] at h
    rcases h with rfl | rfl | h
    · rfl
    · rfl
    · exact ih u h
theorem factCells_inj (a : List Fact) : ∀ b : List Fact, factCells a = factCells b → a = b := by
  induction a with
  | nil => intro b h; cases b with
    | nil => rfl
    | cons y s => simp [factCells] at h
  | cons x r ih =>
    intro b h
    cases b with
    | nil => simp [factCells] at h
    | cons y s =>
      simp only [factCells, List.cons.injEq, Value.int.injEq, true_and] at h
      rw [ih s h.2.2, show x = y from Prod.ext h.1 h.2.1]
theorem factCells_take (l : List Fact) : ∀ n, (factCells l).take (n * 2) = factCells (l.take n) := by
  induction l with
  | nil => intro n; simp [factCells]
  | cons x r ih =>
    intro n
    cases n with
    | zero => simp [factCells]
    | succ n => rw [show (n + 1) * 2 = n * 2 + 1 + 1 from by omega]; simp only [factCells, List.take_succ_cons, ih]

/-- the slice v is a row of the call's own that holds the facts l -/
abbrev OwnF (w : World) (base : Nat) (v : Value) (l : List Fact) : Prop := w.ownsRow base 54 2 v l.length (factCells l)
theorem OwnF.facts {w : World} {base : Nat} {v : Value} {l : List Fact} (h : OwnF w base v l) (hl : l.length * 16 ≤ 140737488355328) : FactsAt w v l := by
  rcases id h.2 with ⟨rfl, h0⟩ | ⟨g, cap, cur, rfl, _, hb, hn, hm, hcs, htake⟩
  · have hnil : l = [] := List.length_eq_zero_iff.1 h0
    subst hnil
    exact ⟨none, 0, rfl, by simp, fun k x hx => by simp at hx⟩
  · refine ⟨some ⟨g, 0, none⟩, cap, rfl, hl, fun k x hx => ⟨g, 0, rfl, ?_, ?_⟩⟩
    · have hk : k < l.length := (List.getElem?_eq_some_iff.1 hx).1
      rw [Nat.zero_add, h.cellAt (k * 2) (by omega)]
      exact (factCells_at l k x hx).1
    · have hk : k < l.length := (List.getElem?_eq_some_iff.1 hx).1
      rw [Nat.zero_add, h.cellAt (k * 2 + 1) (by omega)]
      exact (factCells_at l k x hx).2
theorem ownF_keep {w w' : World} {base : Nat} {v : Value} {l : List Fact} (h : OwnF w base v l) (hb : Below w.heap.size w w') : OwnF w' base v l :=
  World.ownsRow.kept h (row := none) ⟨hb.os, hb.tape, hb.output, hb.size, fun i hi _ => hb.block i hi⟩ (by cases v.ownBlock <;> simp)
theorem OwnF.form {w : World} {base : Nat} {v : Value} {l : List Fact} (h : OwnF w base v l) : ∃ A c, v = .slice A l.length c := by
  rcases h.2 with ⟨rfl, h0⟩ | ⟨g, cap, cur, rfl, _⟩
  · exact ⟨none, 0, by rw [h0]⟩
  · exact ⟨_, _, rfl⟩
theorem own_mono {w : World} {base base' : Nat} {e : TypeId} {size : Nat} {v : Value} {n : Nat} {xs : List Value} (h : w.ownsRow base e size v n xs) (hb : base' ≤ base) : w.ownsRow base' e size v n xs := by
  obtain ⟨h1, h2 | ⟨g, cap, cur, hv, hg, r⟩⟩ := h
  · exact ⟨h1, .inl h2⟩
  · exact ⟨h1, .inr ⟨g, cap, cur, hv, Nat.le_trans hb hg, r⟩⟩
theorem factInfo : (Tryd.prog.info? 54).map (fun i => (i.zero, i.size, i.bytes)) = some (some (.agg #[.int .i64 0, .int .i64 0]), 2, 16) := by kernel_rfl
end Go.Proofs.YticdfbhbbapbdaaDoor
