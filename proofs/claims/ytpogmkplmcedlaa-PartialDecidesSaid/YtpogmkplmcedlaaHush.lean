/- Reading beside a block that is written: 'hush cb w' is the world with that block emptied. Rows of lists whose entries do not move. -/
import Derived.Test.YtpogmkplmcedlaaLists
import Derived.Test.YtpogmkplmcedlaaInsert
namespace Go.Proofs.Ytpogmkplmcedlaa
open Go.RowKit

def hush (cb : Nat) (w : World) : World := w.setRow cb #[]
theorem hush_size (cb : Nat) (w : World) : (hush cb w).heap.size = w.heap.size := by simp [hush, World.setRow]
theorem hush_grown (cb : Nat) (w : World) : w.grownBy (hush cb w) (some cb) := setRow_grown w cb #[]
theorem hush_other {cb k : Nat} (w : World) (h : k ≠ cb) : (hush cb w).heap[k]? = w.heap[k]? := setRow_other w cb k #[] h
theorem hush_cell {cb : Nat} {w : World} {p : Addr} {v : Value} (h : (hush cb w).cell? p = some v) : w.cell? p = some v ∧ p.block ≠ cb := by
  by_cases hb : p.block = cb
  · exfalso
    cases hq : w.heap[cb]? with
    | none =>
      have : ¬ cb < w.heap.size := by
        intro hlt
        rw [Array.getElem?_eq_getElem hlt] at hq
        cases hq
      have h2 := lt_of_cell h
      rw [hush_size, hb] at h2
      exact this h2
    | some o =>
      cases o with
      | cells cs t f =>
        have e := setRow_heap w cb cs #[] t f hq
        unfold World.cell? at h
        rw [hb] at h
        unfold hush at h
        rw [e] at h
        revert h
        cases hsp : p.spot <;> simp
      | _ =>
        have e : (hush cb w).heap[cb]? = w.heap[cb]? := by
          unfold hush World.setRow
          simp only [Array.getElem?_modify, hq]
          simp
        unfold World.cell? at h
        rw [hb, e, hq] at h
        simp at h
  · refine ⟨?_, hb⟩
    unfold World.cell? at h ⊢
    rwa [hush_other w hb] at h
theorem IntsAt.unhush {cb : Nat} {w : World} {v : Value} {l : List Int} (h : IntsAt (hush cb w) v l) : IntsAt w v l := by
  obtain ⟨A, c, hv, hl, h⟩ := h
  refine ⟨A, c, hv, hl, fun k x hx => ?_⟩
  obtain ⟨b, off, hA, h0⟩ := h k x hx
  exact ⟨b, off, hA, (hush_cell h0).1⟩
theorem FactsAt.unhush {cb : Nat} {w : World} {v : Value} {l : List Fact} (h : FactsAt (hush cb w) v l) : FactsAt w v l := by
  obtain ⟨A, c, hv, hl, h⟩ := h
  refine ⟨A, c, hv, hl, fun k x hx => ?_⟩
  obtain ⟨b, off, hA, h0, h1⟩ := h k x hx
  exact ⟨b, off, hA, (hush_cell h0).1, (hush_cell h1).1⟩
theorem ListsAt.unhush {cb : Nat} {w : World} {v : Value} {l : List (List Fact)} (h : ListsAt (hush cb w) v l) : ListsAt w v l := by
  obtain ⟨A, c, hv, hl, h⟩ := h
  refine ⟨A, c, hv, hl, fun k x hx => ?_⟩
  obtain ⟨b, off, fv, hA, h0, h1⟩ := h k x hx
  exact ⟨b, off, fv, hA, (hush_cell h0).1, h1.unhush⟩
theorem hush_below {cb : Nat} {w w' : World} {a a' : Array Value} {t : TypeId} {f : Nat × Nat} (hg : w.grownBy w' (some cb)) (h : w.heap[cb]? = some (.cells a t f)) (h' : w'.heap[cb]? = some (.cells a' t f)) : Below (hush cb w).heap.size (hush cb w) (hush cb w') := by
  refine ⟨hg.os, hg.tape, hg.output, by rw [hush_size, hush_size]; exact hg.size, fun i hi => ?_⟩
  rw [hush_size] at hi
  by_cases hic : i = cb
  · subst hic
    rw [hush, hush, setRow_heap w i a #[] t f h, setRow_heap w' i a' #[] t f h']
  · rw [hush_other _ hic, hush_other _ hic]
    exact hg.block i hi (fun e => hic (by injection e))
theorem grown_of_below {w w' : World} (h : Below w.heap.size w w') (row : Option Nat) : w.grownBy w' row := ⟨h.os, h.tape, h.output, h.size, fun i hi _ => h.block i hi⟩
theorem OwnF.hush {w : World} {base cb : Nat} {v : Value} {l : List Fact} (h : OwnF w base v l) (hc : cb < base) : OwnF (hush cb w) base v l := by
  refine World.ownsRow.kept h (hush_grown cb w) ?_
  cases ho : v.ownBlock with
  | none => exact .inl rfl
  | some k => exact .inr (fun e => by injection e with e; have := (h.lt k ho).1; omega)

/-- a row of the call's own whose entries stand in the relation R to the lists -/
def OwnV (R : Value → List Fact → Prop) (w : World) (base : Nat) (v : Value) (l : List (List Fact)) : Prop :=
  ∃ vs : List Value, vs.length = l.length ∧ (∀ u ∈ vs, u.oneCell' = true) ∧ w.ownsRow base 22 1 v l.length vs ∧ ∀ (k : Nat) (x : List Fact), l[k]? = some x → ∃ fv, vs[k]? = some fv ∧ R fv x
section
variable {R : Value → List Fact → Prop} {w w' : World} {base : Nat} {v : Value} {l : List (List Fact)}
theorem OwnV.nil_ (w : World) (base : Nat) : OwnV R w base (.slice none 0 0) [] := ⟨[], rfl, (fun u hu => by cases hu), ⟨rfl, .inl ⟨rfl, rfl⟩⟩, fun k x hx => by simp at hx⟩
theorem OwnV.form (h : OwnV R w base v l) : ∃ A c, v = .slice A l.length c := by
  obtain ⟨vs, _, _, h, _⟩ := h
  rcases h.2 with ⟨rfl, h0⟩ | ⟨g, cap, cur, rfl, _⟩
  · exact ⟨none, 0, by rw [h0]⟩
  · exact ⟨_, _, rfl⟩
theorem OwnV.keep (h : OwnV R w base v l) (hb : Below w.heap.size w w') : OwnV R w' base v l := by
  obtain ⟨vs, hvl, h1, ho, he⟩ := h
  exact ⟨vs, hvl, h1, ho.kept (row := none) (grown_of_below hb none) (by cases v.ownBlock <;> simp), he⟩
theorem OwnV.hush {cb : Nat} (h : OwnV R w base v l) (hc : cb < base) : OwnV R (hush cb w) base v l := by
  obtain ⟨vs, hvl, h1, ho, he⟩ := h
  refine ⟨vs, hvl, h1, ho.kept (hush_grown cb w) ?_, he⟩
  cases hv : v.ownBlock with
  | none => exact .inl rfl
  | some k => exact .inr (fun e => by injection e with e; have := (ho.lt k hv).1; omega)
theorem OwnV.lists (h : OwnV R w base v l) (hl : l.length * 24 ≤ 140737488355328) (hR : ∀ fv x, R fv x → FactsAt w fv x) : ListsAt w v l := by
  obtain ⟨vs, hvl, _, ho, he⟩ := h
  rcases id ho.2 with ⟨rfl, h0⟩ | ⟨g, cap, cur, rfl, _⟩
  · have hnil : l = [] := List.length_eq_zero_iff.1 h0
    subst hnil
    exact ⟨none, 0, rfl, by simp, fun k x hx => by simp at hx⟩
  · refine ⟨some ⟨g, 0, none⟩, cap, rfl, hl, fun k x hx => ?_⟩
    obtain ⟨fv, hfv, hent⟩ := he k x hx
    have hk : k < l.length := (List.getElem?_eq_some_iff.1 hx).1
    refine ⟨g, 0, fv, rfl, ?_, hR _ _ hent⟩
    rw [Nat.zero_add, ho.cellAt k (by omega)]
    exact hfv
end
/-- 'out = append(out, list)' on such a row -/
theorem wpList_append_v {ops : Array Oper} {rest : List Oper} {o : Oper} {a : Act} {Q : Exit → Act → World → Prop} (hgd : o.guard = none) (s x : Operand)
    (ho : o.op = .call { callee := .builtin .append, args := #[s, x], argTypes := #[35, 35] })
    (R : Value → List Fact → Prop) (W : World) (base : Nat) (v : Value) (l : List (List Fact)) (A : Option Addr) (n c : Nat) (f : List Fact) (hs : a.eval s = v) (hown : OwnV R W base v l) (hent : R (.slice A n c) f) (hx : a.eval x = .slice (some ⟨W.heap.size, 0, none⟩) 1 1)
    (hlen : (l.length + 1) * 24 ≤ 140737488355328) (hbase : base ≤ W.heap.size)
    (h : ∀ v' w', OwnV R w' base v' (l ++ [f]) → (W.alloc (.cells #[.slice A n c] 22)).grownBy w' v.ownBlock → (∀ k, v.ownBlock = some k → base ≤ k) → wpList Try.prog ops Q rest (a.put o.dst v') w') :
    wpList Try.prog ops Q (o :: rest) a (W.alloc (.cells #[.slice A n c] 22)) := by
  obtain ⟨i0, hi0, hz0, hz1, hz2⟩ := info_parts listInfo
  have hB : Below W.heap.size W (W.alloc (.cells #[.slice A n c] 22)) := belowA (Below.refl _ _) _
  obtain ⟨vs, hvl, hv1, hor, he⟩ := hown.keep hB
  have hrd : Reads (W.alloc (.cells #[.slice A n c] 22)) (W.heap.size + 1) 1 (some ⟨W.heap.size, 0, none⟩) 1 [.slice A n c] := by
    refine ⟨rfl, fun _ => ⟨_, rfl, by simp, fun j u hu => ?_⟩⟩
    have hj : j = 0 := by have := (List.getElem?_eq_some_iff.1 hu).1; simp at this; omega
    subst hj
    simp at hu
    subst hu
    rw [add_plain]
    simp
  refine wpList_append_any _ hgd s x _ ho base 22 i0 _ 1 24 Try.underlying35 hi0 hz0 hz1 hz2 rfl (by omega) v l.length vs hs hor _ _ 1 1 [.slice A n c] hx hrd (fun u hu => by simp at hu; subst hu; rfl) (by simp only [maxLen]; omega) hlen (by simp; omega) ?_
  intro v' w' h1 h2 _
  refine h v' w' ?_ h2 (fun k hk => (hor.lt k hk).1)
  refine ⟨vs ++ [.slice A n c], by simp [hvl], fun u hu => ?_, ?_, fun k x hx => ?_⟩
  · rcases List.mem_append.1 hu with hu | hu
    · exact hv1 u hu
    · simp at hu; subst hu; rfl
  · rw [List.length_append]; exact h1
  · by_cases hk : k < l.length
    · rw [List.getElem?_append_left hk] at hx
      obtain ⟨fv, hfv, hent2⟩ := he k x hx
      exact ⟨fv, by rw [List.getElem?_append_left (by omega)]; exact hfv, hent2⟩
    · rw [List.getElem?_append_right (by omega)] at hx
      have hk0 : k - l.length = 0 := by have := (List.getElem?_eq_some_iff.1 hx).1; simp at this; omega
      rw [hk0] at hx
      simp at hx
      subst hx
      exact ⟨_, by rw [List.getElem?_append_right (by omega), hvl, hk0]; rfl, hent⟩
/-- a block after a store into one of its cells -/
theorem set_block {w : World} {g i : Nat} {cur : Array Value} {t : TypeId} {f : Nat × Nat} (hg : w.heap[g]? = some (.cells cur t f)) (v : Value) (new : Array Value) (hn : cur.setIfInBounds i v = new) : (w.setCell ⟨g, i, none⟩ v).heap[g]? = some (.cells new t f) := by
  rw [setCell_eq_setRow w g i cur t f v hg, hn]
  exact setRow_heap w g cur new t f hg
theorem set_grown {w : World} {g i : Nat} {cur : Array Value} {t : TypeId} {f : Nat × Nat} (hg : w.heap[g]? = some (.cells cur t f)) (v : Value) : w.grownBy (w.setCell ⟨g, i, none⟩ v) (some g) := by
  rw [setCell_eq_setRow w g i cur t f v hg]
  exact setRow_grown _ _ _
end Go.Proofs.Ytpogmkplmcedlaa
