/- Words for memory: slices of facts, of nogoods, of numbers, read as lists; what a growing world keeps. -/
import Derived.Test.YticdfbhbbapbdaaDoorChecked
import Derived.WalkKit
import Derived.ProofKit
import Derived.WalkLawsBesides
import Derived.WalkSpells
import Derived.Deep.QuietTactic
import Derived.BigQuiet
import Derived.Outline
import Derived.Lib.Hide
import Derived.Deep.Draws
import Derived.Deep.LoopGhost
import Derived.Deep.DeepCutAuto
namespace Go.Proofs.YticdfbhbbapbdaaDoor
open Go.RowKit

theorem lt_of_cell {w : World} {p : Addr} {v : Value} (h : w.cell? p = some v) : p.block < w.heap.size := by
  rcases Nat.lt_or_ge p.block w.heap.size with hlt | hge
  · exact hlt
  · unfold World.cell? at h
    rw [Array.getElem?_eq_none hge] at h
    cases h
theorem kept {w w' : World} (hb : Below w.heap.size w w') {p : Addr} {v : Value} (h : w.cell? p = some v) : w'.cell? p = some v := by
  rw [hb.cell (lt_of_cell h)]; exact h
theorem belowT {w w1 w2 : World} (h : Below w.heap.size w w1) (k : Below w1.heap.size w1 w2) : Below w.heap.size w w2 := h.trans (k.mono h.size)
theorem belowA {w w1 : World} (h : Below w.heap.size w w1) (o : Obj) : Below w.heap.size w (w1.alloc o) := h.alloc h.size o
theorem drop_at {α : Type} {l : List α} {k : Nat} {x : α} (h : l[k]? = some x) : l.drop k = x :: l.drop (k + 1) := by
  obtain ⟨hk, rfl⟩ := List.getElem?_eq_some_iff.1 h
  exact List.drop_eq_getElem_cons hk

abbrev Fact := Int × Int
abbrev Nogood := List Fact × Int

/-- the slice value v reads as the list of numbers -/
def IntsAt (w : World) (v : Value) (l : List Int) : Prop :=
  ∃ A c, v = .slice A l.length c ∧ l.length * 8 ≤ 140737488355328 ∧ ∀ k x, l[k]? = some x → ∃ b off, A = some ⟨b, off, none⟩ ∧ w.cell? ⟨b, off + k, none⟩ = some (.int .i64 x)
/-- the slice value v reads as the list of facts -/
def FactsAt (w : World) (v : Value) (l : List Fact) : Prop :=
  ∃ A c, v = .slice A l.length c ∧ l.length * 16 ≤ 140737488355328 ∧ ∀ k x, l[k]? = some x → ∃ b off, A = some ⟨b, off, none⟩ ∧ w.cell? ⟨b, off + k * 2, none⟩ = some (.int .i64 x.1) ∧ w.cell? ⟨b, off + k * 2 + 1, none⟩ = some (.int .i64 x.2)
/-- the slice value v reads as the list of nogoods -/
def NogoodsAt (w : World) (v : Value) (l : List Nogood) : Prop :=
  ∃ A c, v = .slice A l.length c ∧ l.length * 32 ≤ 140737488355328 ∧ ∀ k x, l[k]? = some x → ∃ b off fv, A = some ⟨b, off, none⟩ ∧ w.cell? ⟨b, off + k * 2, none⟩ = some fv ∧ FactsAt w fv x.1 ∧ w.cell? ⟨b, off + k * 2 + 1, none⟩ = some (.int .i64 x.2)

theorem IntsAt.keep {w w' : World} {v : Value} {l : List Int} (hb : Below w.heap.size w w') (h : IntsAt w v l) : IntsAt w' v l := by
  obtain ⟨A, c, hv, hl, h⟩ := h
  refine ⟨A, c, hv, hl, fun k x hx => ?_⟩
  obtain ⟨b, off, hA, h0⟩ := h k x hx
  exact ⟨b, off, hA, kept hb h0⟩
theorem FactsAt.keep {w w' : World} {v : Value} {l : List Fact} (hb : Below w.heap.size w w') (h : FactsAt w v l) : FactsAt w' v l := by
  obtain ⟨A, c, hv, hl, h⟩ := h
  refine ⟨A, c, hv, hl, fun k x hx => ?_⟩
  obtain ⟨b, off, hA, h0, h1⟩ := h k x hx
  exact ⟨b, off, hA, kept hb h0, kept hb h1⟩
theorem NogoodsAt.keep {w w' : World} {v : Value} {l : List Nogood} (hb : Below w.heap.size w w') (h : NogoodsAt w v l) : NogoodsAt w' v l := by
  obtain ⟨A, c, hv, hl, h⟩ := h
  refine ⟨A, c, hv, hl, fun k x hx => ?_⟩
  obtain ⟨b, off, fv, hA, h0, hf, h1⟩ := h k x hx
  exact ⟨b, off, fv, hA, kept hb h0, hf.keep hb, kept hb h1⟩

theorem IntsAt.form {w : World} {v : Value} {l : List Int} (h : IntsAt w v l) : ∃ A n c, v = .slice A n c ∧ n = l.length ∧ n ≤ 140737488355328 := by
  obtain ⟨A, c, hv, hl, _⟩ := h
  exact ⟨A, _, c, hv, rfl, by omega⟩
theorem FactsAt.form {w : World} {v : Value} {l : List Fact} (h : FactsAt w v l) : ∃ A n c, v = .slice A n c ∧ n = l.length ∧ n ≤ 140737488355328 := by
  obtain ⟨A, c, hv, hl, _⟩ := h
  exact ⟨A, _, c, hv, rfl, by omega⟩
theorem NogoodsAt.form {w : World} {v : Value} {l : List Nogood} (h : NogoodsAt w v l) : ∃ A n c, v = .slice A n c ∧ n = l.length ∧ n ≤ 140737488355328 := by
  obtain ⟨A, c, hv, hl, _⟩ := h
  exact ⟨A, _, c, hv, rfl, by omega⟩

theorem some_at {α : Type} {l : List α} {k n : Nat} (hn : n = l.length) (hk : k < n) : ∃ x, l[k]? = some x ∧ l.drop k = x :: l.drop (k + 1) := by
  subst hn
  exact ⟨l[k], List.getElem?_eq_getElem hk, List.drop_eq_getElem_cons hk⟩

/-- element k of a slice of numbers -/
theorem IntsAt.at {w : World} {A : Option Addr} {n c : Nat} {l : List Int} (h : IntsAt w (.slice A n c) l) {k : Nat} (hk : k < n) :
    ∃ b off x, A = some ⟨b, off, none⟩ ∧ w.cell? ⟨b, off + k, none⟩ = some (.int .i64 x) ∧ l[k]? = some x ∧ l.drop k = x :: l.drop (k + 1) := by
  obtain ⟨A', c', hv, hl, h⟩ := h
  injection hv with h1 h2 h3
  subst h1 h3
  obtain ⟨x, hx, hd⟩ := some_at h2 hk
  obtain ⟨b, off, hA, h0⟩ := h k x hx
  exact ⟨b, off, x, hA, h0, hx, hd⟩
theorem FactsAt.at {w : World} {A : Option Addr} {n c : Nat} {l : List Fact} (h : FactsAt w (.slice A n c) l) {k : Nat} (hk : k < n) :
    ∃ b off x y, A = some ⟨b, off, none⟩ ∧ w.cell? ⟨b, off + k * 2, none⟩ = some (.int .i64 x) ∧ w.cell? ⟨b, off + k * 2 + 1, none⟩ = some (.int .i64 y) ∧ l[k]? = some (x, y) ∧ l.drop k = (x, y) :: l.drop (k + 1) := by
  obtain ⟨A', c', hv, hl, h⟩ := h
  injection hv with h1 h2 h3
  subst h1 h3
  obtain ⟨⟨x, y⟩, hx, hd⟩ := some_at h2 hk
  obtain ⟨b, off, hA, h0, h1⟩ := h k _ hx
  exact ⟨b, off, x, y, hA, h0, h1, hx, hd⟩
theorem NogoodsAt.at {w : World} {A : Option Addr} {n c : Nat} {l : List Nogood} (h : NogoodsAt w (.slice A n c) l) {k : Nat} (hk : k < n) :
    ∃ b off fA fn fc fs d, A = some ⟨b, off, none⟩ ∧ w.cell? ⟨b, off + k * 2, none⟩ = some (.slice fA fn fc) ∧ fn = fs.length ∧ fn ≤ 140737488355328 ∧ FactsAt w (.slice fA fn fc) fs ∧ w.cell? ⟨b, off + k * 2 + 1, none⟩ = some (.int .i64 d) ∧
      l[k]? = some (fs, d) ∧ l.drop k = (fs, d) :: l.drop (k + 1) := by
  obtain ⟨A', c', hv, hl, h⟩ := h
  injection hv with h1 h2 h3
  subst h1 h3
  obtain ⟨⟨fs, d⟩, hx, hd⟩ := some_at h2 hk
  obtain ⟨b, off, fv, hA, h0, hf, h1⟩ := h k _ hx
  obtain ⟨fA, fn, fc, rfl, hfn, hfl⟩ := hf.form
  exact ⟨b, off, fA, fn, fc, fs, d, hA, h0, hfn, hfl, hf, h1, hx, hd⟩

/-- element x of a slice of numbers, x a number in range -/
theorem IntsAt.num {w : World} {A : Option Addr} {n c : Nat} {l : List Int} (h : IntsAt w (.slice A n c) l) {x : Int} (h0 : 0 ≤ x) (h1 : x < n) :
    ∃ b off z, A = some ⟨b, off, none⟩ ∧ w.cell? ⟨b, off + x.toNat, none⟩ = some (.int .i64 z) ∧ l.getD x.toNat 0 = z := by
  obtain ⟨b, off, z, hA, hc, hz, _⟩ := h.at (k := x.toNat) (by omega)
  exact ⟨b, off, z, hA, hc, by simp [List.getD, hz]⟩
theorem IntsAt.len {w : World} {A : Option Addr} {n c : Nat} {l : List Int} (h : IntsAt w (.slice A n c) l) : n = l.length := by
  obtain ⟨A', c', hv, _⟩ := h
  injection hv

end Go.Proofs.YticdfbhbbapbdaaDoor
