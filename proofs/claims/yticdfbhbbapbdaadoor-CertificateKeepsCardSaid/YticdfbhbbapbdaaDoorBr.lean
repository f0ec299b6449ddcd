/- The abstract machine and the elder words: facts, nogoods, numbers; contracts taken over. -/
import Derived.Test.YticdfbhbbapbdaaDoorAmC
import Derived.Test.YticdfbhbbapbdaaDoorRowN
namespace Go.Proofs.YticdfbhbbapbdaaDoor.Am
open Go.RowKit

def cI (z : Int) : List AV := [.c (.int .i64 z)]
def cF (x : Fact) : List AV := [.c (.int .i64 x.1), .c (.int .i64 x.2)]
def cN (x : Nogood) : List AV := [.sl 2 (x.1.map cF), .c (.int .i64 x.2)]
theorem wrap_eq {z : Int} (h1 : -9223372036854775808 ≤ z) (h2 : z ≤ 9223372036854775807) : IntKind.i64.wrap z = z := by
  rw [IntKind.wrap_i64]
  omega
theorem map_at {α β : Type} {l : List α} {f : α → β} {k : Nat} {x : α} (h : l[k]? = some x) : (l.map f)[((k : Nat) : Int).toNat]? = some (f x) := by
  rw [Int.toNat_natCast, List.getElem?_map, h]
  rfl
theorem map_at' {α β : Type} {l : List α} {f : α → β} {k : Nat} {x : α} (h : l[k]? = some x) : (l.map f)[k]? = some (f x) := by
  rw [List.getElem?_map, h]
  rfl
theorem FrL_map {α : Type} {l : List α} {f : α → List AV} (h : ∀ x ∈ l, ∀ y ∈ f x, Fr y) : FrL (l.map f) := by
  intro e he y hy
  obtain ⟨x, hx, rfl⟩ := List.mem_map.1 he
  exact h x hx y hy
theorem fr_cF (x : Fact) : ∀ y ∈ cF x, Fr y := by
  intro y hy
  simp [cF] at hy
  rcases hy with rfl | rfl <;> exact .c _
theorem frl_cF (l : List Fact) : FrL (l.map cF) := FrL_map (fun x _ => fr_cF x)
theorem fr_cN (x : Nogood) : ∀ y ∈ cN x, Fr y := by
  intro y hy
  simp [cN] at hy
  rcases hy with rfl | rfl
  · exact .sl (frl_cF _)
  · exact .c _
theorem frl_cN (l : List Nogood) : FrL (l.map cN) := FrL_map (fun x _ => fr_cN x)
theorem frl_cI (l : List Int) : FrL (l.map cI) := FrL_map (fun x _ y hy => by simp [cI] at hy; subst hy; exact .c _)
theorem FrL_append {a b : List (List AV)} (h1 : FrL a) (h2 : FrL b) : FrL (a ++ b) := by
  intro e he
  rcases List.mem_append.1 he with h | h
  · exact h1 e h
  · exact h2 e h

theorem get_map {α β : Type} {l : List α} {f : α → β} {k : Nat} {e : β} (h : (l.map f)[k]? = some e) : ∃ x, l[k]? = some x ∧ e = f x := by
  rw [List.getElem?_map] at h
  cases hx : l[k]? with
  | none => rw [hx] at h; cases h
  | some x => rw [hx] at h; simp at h; exact ⟨x, rfl, h.symm⟩

section
variable {w : World} {vs : Shp} {m : MM} {v : Value}
theorem rv_ints {l : List Int} (h : RV w vs m (.sl 1 (l.map cI)) v) (hl : l.length * 8 ≤ 140737488355328) : IntsAt w v l := by
  obtain ⟨A, cap, b, off, f, rfl, hA, _, _, _, hc, hr, _⟩ := rv_sl h
  refine ⟨A, cap, by simp, hl, fun k x hx => ?_⟩
  have hk : (l.map cI)[k]? = some (cI x) := map_at' hx
  obtain ⟨rfl, _⟩ := hA (fun e => by rw [e] at hk; simp at hk)
  have h0 := (hc k 0 _ _ hk rfl).1
  rw [rv_c (hr k 0 _ _ hk rfl)] at h0
  exact ⟨b, off, rfl, by simpa using h0⟩
theorem rv_facts {l : List Fact} (h : RV w vs m (.sl 2 (l.map cF)) v) (hl : l.length * 16 ≤ 140737488355328) : FactsAt w v l := by
  obtain ⟨A, cap, b, off, f, rfl, hA, _, _, _, hc, hr, _⟩ := rv_sl h
  refine ⟨A, cap, by simp, hl, fun k x hx => ?_⟩
  have hk : (l.map cF)[k]? = some (cF x) := map_at' hx
  obtain ⟨rfl, _⟩ := hA (fun e => by rw [e] at hk; simp at hk)
  have h0 := (hc k 0 _ _ hk rfl).1
  have h1 := (hc k 1 _ _ hk rfl).1
  rw [rv_c (hr k 0 _ _ hk rfl)] at h0
  rw [rv_c (hr k 1 _ _ hk rfl)] at h1
  exact ⟨b, off, rfl, by simpa using h0, by simpa [Nat.add_assoc] using h1⟩
theorem rv_nogoods {l : List Nogood} (h : RV w vs m (.sl 2 (l.map cN)) v) (hl : l.length * 32 ≤ 140737488355328) (hs : ∀ x ∈ l, x.1.length * 16 ≤ 140737488355328) : NogoodsAt w v l := by
  obtain ⟨A, cap, b, off, f, rfl, hA, _, _, _, hc, hr, _⟩ := rv_sl h
  refine ⟨A, cap, by simp, hl, fun k x hx => ?_⟩
  have hk : (l.map cN)[k]? = some (cN x) := map_at' hx
  obtain ⟨rfl, _⟩ := hA (fun e => by rw [e] at hk; simp at hk)
  have h0 := (hc k 0 _ _ hk rfl).1
  have h1 := (hc k 1 _ _ hk rfl).1
  rw [rv_c (hr k 1 _ _ hk rfl)] at h1
  exact ⟨b, off, f k 0, rfl, by simpa using h0, rv_facts (hr k 0 _ _ hk rfl) (hs x (List.mem_of_getElem? hx)), by simpa [Nat.add_assoc] using h1⟩

/-- values that came in -/
theorem nil_rv (sz c : Nat) : RV w vs m (.sl sz []) (.slice none 0 c) :=
  RV.sl (l := []) (b := 0) (off := 0) (f := fun _ _ => undef) (fun h => absurd rfl h) (Nat.zero_le _) (by simp) (fun k e h => by simp at h) (fun k j e x h => by simp at h) (fun k j e x h => by simp at h) (fun e he => by cases he)
end
end Go.Proofs.YticdfbhbbapbdaaDoor.Am
