/- slices.Clone over facts. -/
import Derived.Test.YticdfbhbbapbdaaDoorAppend
namespace Go.Proofs.YticdfbhbbapbdaaDoor
open Go.RowKit

set_option maxHeartbeats 1000000 in
theorem cloneF_calls (v : Value) (l : List Fact) (w : World) (hv : FactsAt w v l) :
    Calls Tryd.prog 61 #[v] w fun e w' => ∃ v', e = .returned v' ∧ OwnF w' w.heap.size v' l ∧ Below w.heap.size w w' := by
  obtain ⟨A, n, c, rfl, hn, hm⟩ := hv.form
  obtain ⟨i0, hi0, hz0, hz1, hz2⟩ := info_parts factInfo
  have hroom : n * 16 ≤ 140737488355328 := by obtain ⟨_, _, hv', hl, _⟩ := id hv; injection hv' with _ h2 _; omega
  rcases A with _ | ad
  · have hl0 : l = [] := by
      cases l with
      | nil => rfl
      | cons x r => obtain ⟨b, off, _, _, hA, _⟩ := hv.at (k := 0) (by simp at hn; omega); cases hA
    subst hl0
    simp at hn
    subst hn
    have hk := fun (W : World) (a : Option Addr) (n c : Nat) => Lib.run_eql_slice_nil (P := Tryd.prog) W 43 54 a n c 0 0 Tryd.underlying43
    clear hv
    go_enter Tryd.func61, Tryd.ntmps61
    go_wp2_with fail
    go_ret
    exact ⟨_, rfl, ⟨rfl, .inl ⟨rfl, rfl⟩⟩, Below.refl _ _⟩
  · have hk := fun (W : World) (a : Option Addr) (n c : Nat) => Lib.run_eql_slice_nil (P := Tryd.prog) W 43 54 a n c 0 0 Tryd.underlying43
    have hr := (hv.keep (belowA (Below.refl _ _) (.cells #[] 54))).reads
    have hown : (w.alloc (.cells #[] 54)).ownsRow w.heap.size 54 2 (.slice (some ⟨w.heap.size, 0, none⟩) 0 0) 0 [] := ⟨rfl, .inr ⟨w.heap.size, 0, #[], rfl, Nat.le_refl _, heap_alloc_new _ _, Nat.le_refl _, Nat.zero_le _, rfl, rfl⟩⟩
    have HV := Lib.hid hv
    have HN := Lib.hid hn
    have HR := Lib.hid hr
    have HOWN := Lib.hid hown
    clear hv hn hr hown
    go_enter Tryd.func61, Tryd.ntmps61
    go_wp2_with (at_builtin; refine wpList_append_any _ rfl (.tmp 5) (.tmp 6) _ rfl w.heap.size 54 i0 _ 2 16 Tryd.underlying43 hi0 hz0 hz1 hz2 rfl (by omega) (.slice (some ⟨w.heap.size, 0, none⟩) 0 0) 0 [] rfl HOWN.out _ _ n c (factCells l) rfl HR.out (factCells_one l) (by simp only [maxLen]; omega) (by omega) (by simp) ?_; intro v1 w1 hown1 hg1 hat1)
    go_ret
    refine ⟨v1, rfl, ?_, ?_⟩
    · rw [Nat.zero_add, List.nil_append, HN.out] at hown1
      exact hown1
    · exact (belowA (Below.refl _ _) _).grown hg1 (by simp) (by intro k hk; simp [Value.ownBlock] at hk; omega)
end Go.Proofs.YticdfbhbbapbdaaDoor
