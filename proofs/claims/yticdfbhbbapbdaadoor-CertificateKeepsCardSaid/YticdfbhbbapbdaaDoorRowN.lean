/- Rows of nogoods that the call owns, their facts in rows of the call's own. -/
import Derived.Test.YticdfbhbbapbdaaDoorStableS
import Derived.Test.YticdfbhbbapbdaaDoorCloneF
namespace Go.Proofs.YticdfbhbbapbdaaDoor
open Go.RowKit

def itemCells : List Item → List Value
  | [] => []
  | x :: r => .slice x.1.1 x.1.2.1 x.1.2.2 :: .int .i64 x.2.2 :: itemCells r
theorem itemCells_length (l : List Item) : (itemCells l).length = l.length * 2 := by
  induction l with
  | nil => rfl
  | cons x r ih => simp only [itemCells, List.length_cons, ih]; omega
theorem itemCells_append (a b : List Item) : itemCells (a ++ b) = itemCells a ++ itemCells b := by
  induction a with
  | nil => rfl
  | cons x r ih => simp [itemCells, ih]
theorem itemCells_one (l : List Item) : ∀ u ∈ itemCells l, u.oneCell' = true := by
  induction l with
  | nil => intro u h; cases h
  | cons x r ih =>
    intro u h
    simp only [itemCells, List.mem_cons] at h
    rcases h with rfl | rfl | h
    · rfl
    · rfl
    · exact ih u h
theorem itemCells_at (l : List Item) : ∀ (k : Nat) (x : Item), l[k]? = some x → (itemCells l)[k * 2]? = some (.slice x.1.1 x.1.2.1 x.1.2.2) ∧ (itemCells l)[k * 2 + 1]? = some (.int .i64 x.2.2) := by
  induction l with
  | nil => intro k x h; simp at h
  | cons y r ih =>
    intro k x h
    cases k with
    | zero => simp at h; subst h; simp [itemCells]
    | succ k =>
      simp at h
      obtain ⟨h1, h2⟩ := ih k x h
      rw [show (k + 1) * 2 = k * 2 + 1 + 1 from by omega, show k * 2 + 1 + 1 + 1 = (k * 2 + 1) + 1 + 1 from rfl]
      simp only [itemCells, List.getElem?_cons_succ]
      exact ⟨h1, h2⟩
theorem nogoodInfo : (Tryd.prog.info? 45).map (fun i => (i.zero, i.size, i.bytes)) = some (some (.agg #[.slice none 0 0, .int .i64 0]), 2, 32) := by kernel_rfl

/-- an item whose facts lie in a row of the call's own -/
def EntN (w : World) (base : Nat) (x : Item) : Prop := OwnF w base (.slice x.1.1 x.1.2.1 x.1.2.2) x.2.1 ∧ x.2.1.length * 16 ≤ 140737488355328
/-- v is a row of the call's own that holds the nogoods l -/
def OwnN (w : World) (base : Nat) (v : Value) (l : List Nogood) : Prop :=
  ∃ its : List Item, its.map (·.2) = l ∧ w.ownsRow base 45 2 v l.length (itemCells its) ∧ ∀ x ∈ its, EntN w base x
theorem OwnN.nil_ (w : World) (base : Nat) : OwnN w base (.slice none 0 0) [] := ⟨[], rfl, ⟨rfl, .inl ⟨rfl, rfl⟩⟩, fun x hx => by cases hx⟩
theorem OwnN.form {w : World} {base : Nat} {v : Value} {l : List Nogood} (h : OwnN w base v l) : ∃ A c, v = .slice A l.length c := by
  obtain ⟨its, _, h, _⟩ := h
  rcases h.2 with ⟨rfl, h0⟩ | ⟨g, cap, cur, rfl, _⟩
  · exact ⟨none, 0, by rw [h0]⟩
  · exact ⟨_, _, rfl⟩
theorem EntN.facts {w : World} {base : Nat} {x : Item} (h : EntN w base x) : FactsAt w (.slice x.1.1 x.1.2.1 x.1.2.2) x.2.1 := OwnF.facts h.1 h.2
theorem EntN.kept {w w' : World} {base : Nat} {x : Item} {row : Option Nat} (h : EntN w base x) (hg : w.grownBy w' row) (hr : ∀ r, row = some r → r < base) : EntN w' base x := by
  refine ⟨World.ownsRow.kept h.1 hg ?_, h.2⟩
  cases ho : (Value.slice x.1.1 x.1.2.1 x.1.2.2).ownBlock with
  | none => exact .inl rfl
  | some k => exact .inr (fun e => by have h1 := (h.1.lt k ho).1; have h2 := hr k e.symm; omega)
/-- .. behind a write into a row of nogoods -/
theorem EntN.other {w w' : World} {base g : Nat} {cur : Array Value} {x : Item} (h : EntN w base x) (hg : w.grownBy w' (some g)) (hh : w.heap[g]? = some (.cells cur 45 (0, 0))) : EntN w' base x := by
  refine ⟨World.ownsRow.kept h.1 hg ?_, h.2⟩
  rcases h.1.2 with ⟨hv, _⟩ | ⟨g', cap', cur', hv, _, hh', _⟩
  · rw [hv]; exact .inl rfl
  · rw [hv]
    refine .inr (fun e => ?_)
    have : g' = g := by simpa [Value.ownBlock] using e
    subst this
    rw [hh] at hh'
    injection hh' with hh'
    injection hh' with _ h2 _
    exact absurd h2 (by decide)
theorem OwnN.kept {w w' : World} {base : Nat} {v : Value} {l : List Nogood} {row : Option Nat} (h : OwnN w base v l) (hg : w.grownBy w' row) (hr : ∀ r, row = some r → r < base) : OwnN w' base v l := by
  obtain ⟨its, h1, h2, h3⟩ := h
  refine ⟨its, h1, h2.kept hg ?_, fun x hx => (h3 x hx).kept hg hr⟩
  cases ho : v.ownBlock with
  | none => exact .inl rfl
  | some k => exact .inr (fun e => by have a := (h2.lt k ho).1; have b := hr k e.symm; omega)
theorem OwnN.keep {w w' : World} {base : Nat} {v : Value} {l : List Nogood} (h : OwnN w base v l) (hb : Below w.heap.size w w') : OwnN w' base v l := h.kept (grown_of_below hb none) (fun r e => by cases e)
theorem OwnN.nogoods {w : World} {base : Nat} {v : Value} {l : List Nogood} (h : OwnN w base v l) (hl : l.length * 32 ≤ 140737488355328) : NogoodsAt w v l := by
  obtain ⟨its, h1, ho, h3⟩ := h
  have hlen : its.length = l.length := by rw [← h1]; simp
  rcases id ho.2 with ⟨rfl, h0⟩ | ⟨g, cap, cur, rfl, _⟩
  · have hnil : l = [] := List.length_eq_zero_iff.1 h0
    subst hnil
    exact ⟨none, 0, rfl, by simp, fun k x hx => by simp at hx⟩
  · refine ⟨some ⟨g, 0, none⟩, cap, rfl, hl, fun k x hx => ?_⟩
    have hk : k < l.length := (List.getElem?_eq_some_iff.1 hx).1
    have hit : its[k]? = some its[k] := List.getElem?_eq_getElem (by omega)
    have hx2 : its[k].2 = x := by
      rw [← h1, List.getElem?_map, hit] at hx
      injection hx
    obtain ⟨a, b⟩ := itemCells_at its k _ hit
    refine ⟨g, 0, _, rfl, ?_, hx2 ▸ (h3 its[k] (List.getElem_mem _)).facts, ?_⟩
    · rw [Nat.zero_add, ho.cellAt (k * 2) (by omega)]
      exact a
    · rw [Nat.zero_add, ho.cellAt (k * 2 + 1) (by omega), ← hx2]
      exact b
/-- the row as the sort sees it -/
theorem OwnN.row {w : World} {base : Nat} {v : Value} {l : List Nogood} (h : OwnN w base v l) (hne : v ≠ .slice none 0 0) :
    ∃ g cap f, v = .slice (some ⟨g, 0, none⟩) l.length cap ∧ base ≤ g ∧ RowI w g cap l.length f ∧ GoodI w g l.length f ∧ (List.range l.length).map (fun k => (f k).2) = l ∧ (∀ k, k < l.length → EntN w base (f k)) ∧ cap ≤ maxLen := by
  obtain ⟨its, h1, ho, h3⟩ := h
  have hlen : its.length = l.length := by rw [← h1]; simp
  rcases id ho.2 with ⟨rfl, h0⟩ | ⟨g, cap, cur, rfl, hbg, hh, hnc, hmx, hcs, htake⟩
  · exact absurd rfl hne
  · refine ⟨g, cap, fun k => its.getD k ((none, 0, 0), ([], 0)), rfl, hbg, ⟨cur, hh, hcs, hnc, fun k hk => ?_⟩, fun k hk => ?_, ?_, fun k hk => ?_, hmx⟩
    · have hit : its[k]? = some its[k] := List.getElem?_eq_getElem (by omega)
      obtain ⟨a, b⟩ := itemCells_at its k _ hit
      rw [← htake, List.getElem?_take] at a b
      rw [if_pos (by omega)] at a b
      simp only [List.getD_eq_getElem?_getD, hit, Option.getD_some]
      exact ⟨by simpa using a, by simpa using b⟩
    · have hit : its[k]? = some its[k] := List.getElem?_eq_getElem (by omega)
      simp only [List.getD_eq_getElem?_getD, hit, Option.getD_some]
      exact ((h3 its[k] (List.getElem_mem _)).other (hush_grown g w) hh).facts
    · rw [← h1]
      refine List.ext_getElem (by simp) (fun k hk1 hk2 => ?_)
      simp at hk1 hk2
      simp [List.getD_eq_getElem?_getD, List.getElem?_eq_getElem hk2]
    · have hit : its[k]? = some its[k] := List.getElem?_eq_getElem (by omega)
      simp only [List.getD_eq_getElem?_getD, hit, Option.getD_some]
      exact h3 its[k] (List.getElem_mem _)
end Go.Proofs.YticdfbhbbapbdaaDoor
