/- Plain law: partial.Make and stratagemref06.Make compute the same. -/
import Derived.Test.YtpogmkplmcedlaaMake
import Derived.Test.YtpogmkplmcedlaaRMake
import Derived.Test.YtpogmkplmcedlaaPlainF
namespace Go.Proofs.Ytpogmkplmcedlaa

theorem dd_mem (x : Fact) (l : List Fact) : ∀ p, (x ∈ dd p l → x ∈ l) ∧ (x ∈ l → x ∈ dd p l ∨ p = some x) := by
  induction l with
  | nil => intro p; simp [dd]
  | cons y r ih =>
    intro p
    rw [dd]
    obtain ⟨h1, h2⟩ := ih (some y)
    split
    · rename_i hp
      refine ⟨fun h => by simp [h1 h], fun h => ?_⟩
      rcases List.mem_cons.1 h with rfl | h
      · exact .inr hp
      · rcases h2 h with h | h
        · exact .inl h
        · injection h with h; subst h; exact .inr hp
    · refine ⟨fun h => ?_, fun h => ?_⟩
      · rcases List.mem_cons.1 h with rfl | h
        · simp
        · simp [h1 h]
      · rcases List.mem_cons.1 h with rfl | h
        · exact .inl (by simp)
        · rcases h2 h with h | h
          · exact .inl (by simp [h])
          · injection h with h; subst h; exact .inl (by simp)
theorem compactF_mem (x : Fact) (l : List Fact) : x ∈ compactF l ↔ x ∈ l := by
  obtain ⟨h1, h2⟩ := dd_mem x l none
  exact ⟨h1, fun h => (h2 h).elim id (fun h => by cases h)⟩
theorem dd_lt (l : List Fact) : ∀ p, l.Pairwise LeF → (∀ y, p = some y → ∀ x ∈ l, LeF y x) → (dd p l).Pairwise LtF ∧ ∀ y, p = some y → ∀ x ∈ dd p l, LtF y x := by
  induction l with
  | nil => intro p _ _; simp [dd]
  | cons z r ih =>
    intro p hs hp
    obtain ⟨h1, h2⟩ := List.pairwise_cons.1 hs
    obtain ⟨h3, h4⟩ := ih (some z) h2 (fun y hy x hx => by injection hy with hy; subst hy; exact h1 x hx)
    rw [dd]
    split
    · rename_i hz
      exact ⟨h3, fun y hy x hx => by rw [hz] at hy; injection hy with hy; subst hy; exact h4 z rfl x hx⟩
    · rename_i hz
      refine ⟨List.pairwise_cons.2 ⟨fun x hx => h4 z rfl x hx, h3⟩, fun y hy x hx => ?_⟩
      have hyz : LtF y z := by
        have hle := hp y hy z (by simp)
        have hne : ¬ y = z := fun e => hz (by rw [hy, e])
        unfold LeF at hle
        unfold LtF
        rcases hle with h | ⟨h, h'⟩
        · exact .inl h
        · by_cases e : y.2 = z.2
          · exact absurd (Prod.ext h e) hne
          · exact .inr ⟨h, by omega⟩
      rcases List.mem_cons.1 hx with rfl | hx
      · exact hyz
      · have := h4 z rfl x hx
        unfold LtF at *
        omega
theorem sortF_le (l : List Fact) : (sortF l).Pairwise LeF := by
  have h := List.pairwise_mergeSort (le := fun x y => !ltF y x) (by
    intro a b c h1 h2
    simp [ltF] at *
    omega) (by
    intro a b
    simp [ltF]
    omega) l
  refine List.Pairwise.imp ?_ h
  intro a b hab
  simp [ltF] at hab
  unfold LeF
  omega
theorem sortF_mem (x : Fact) (l : List Fact) : x ∈ sortF l ↔ x ∈ l := (List.mergeSort_perm l _).mem_iff
theorem tidyF_mem (x : Fact) (l : List Fact) : x ∈ tidyF l ↔ x ∈ l := by rw [tidyF, compactF_mem, sortF_mem]
theorem tidyF_lt (l : List Fact) : (tidyF l).Pairwise LtF := (dd_lt (sortF l) none (sortF_le l) (fun y hy => by cases hy)).1

theorem rmakeL_spec (r : List Fact) : ∀ acc : List Fact, Asc acc → Nonneg acc → Nonneg r →
    (∃ m, rmakeL acc r = (m, 0) ∧ Asc m ∧ (∀ z, z ∈ m ↔ z ∈ acc ∨ z ∈ r)) ∨ (rmakeL acc r = ([], 2) ∧ Conflict (acc ++ r)) := by
  induction r with
  | nil => intro acc h _ _; exact .inl ⟨acc, rfl, h, by simp⟩
  | cons x r ih =>
    intro acc ha hn hr
    have hx := hr x (by simp)
    have hr' : Nonneg r := fun z hz => hr z (by simp [hz])
    rw [rmakeL]
    by_cases h1 : 0 ≤ valueF acc x.1 ∧ valueF acc x.1 ≠ x.2
    · rw [if_pos h1]
      refine .inr ⟨rfl, (x.1, valueF acc x.1), ?_, x, by simp, rfl, h1.2⟩
      exact List.mem_append_left _ (valueF_mem (by omega))
    · rw [if_neg h1]
      by_cases h2 : valueF acc x.1 < 0
      · rw [if_pos h2]
        have hne := valueF_none hn h2
        have hn' : Nonneg (withF acc x) := fun z hz => by
          rcases (withF_mem x z acc).1 hz with h | rfl
          · exact hn z h
          · exact hx
        rcases ih (withF acc x) (withF_asc ha hne) hn' hr' with ⟨m, h3, h4, h5⟩ | ⟨h3, a, ha', b, hb', h4⟩
        · refine .inl ⟨m, h3, h4, fun z => ?_⟩
          rw [h5, withF_mem]
          simp only [List.mem_cons]
          constructor
          · rintro ((h | h) | h)
            · exact .inl h
            · exact .inr (.inl h)
            · exact .inr (.inr h)
          · rintro (h | h | h)
            · exact .inl (.inl h)
            · exact .inl (.inr h)
            · exact .inr h
        · refine .inr ⟨h3, a, ?_, b, ?_, h4⟩
          · simp only [List.mem_append, withF_mem, List.mem_cons] at ha' ⊢
            rcases ha' with (h | h) | h
            · exact .inl h
            · exact .inr (.inl h)
            · exact .inr (.inr h)
          · simp only [List.mem_append, withF_mem, List.mem_cons] at hb' ⊢
            rcases hb' with (h | h) | h
            · exact .inl h
            · exact .inr (.inl h)
            · exact .inr (.inr h)
      · rw [if_neg h2]
        have hxm : x ∈ acc := by
          have hv : valueF acc x.1 = x.2 := by
            by_cases e : valueF acc x.1 = x.2
            · exact e
            · exact absurd ⟨by omega, e⟩ h1
          have := valueF_mem (l := acc) (v := x.1) (by omega)
          rw [hv] at this
          exact this
        rcases ih acc ha hn hr' with ⟨m, h3, h4, h5⟩ | ⟨h3, a, ha', b, hb', h4⟩
        · refine .inl ⟨m, h3, h4, fun z => ?_⟩
          rw [h5]
          simp only [List.mem_cons]
          constructor
          · rintro (h | h)
            · exact .inl h
            · exact .inr (.inr h)
          · rintro (h | rfl | h)
            · exact .inl h
            · exact .inl hxm
            · exact .inr h
        · refine .inr ⟨h3, a, ?_, b, ?_, h4⟩
          · simp only [List.mem_append, List.mem_cons] at ha' ⊢
            rcases ha' with h | h
            · exact .inl h
            · exact .inr (.inr h)
          · simp only [List.mem_append, List.mem_cons] at hb' ⊢
            rcases hb' with h | h
            · exact .inl h
            · exact .inr (.inr h)

theorem make_eq (l : List Fact) : makeF l = rmakeF l := by
  have hneg : l.any negF = l.any negR := rfl
  unfold makeF rmakeF
  rw [hneg]
  cases hany : l.any negR
  · simp only [Bool.false_eq_true, if_false]
    have hnn : Nonneg l := fun x hx => by
      have := List.any_eq_false.1 hany x hx
      simp [negR] at this
      exact this
    rcases rmakeL_spec l [] (by simp [Asc]) (fun z hz => by cases hz) hnn with ⟨m, h1, h2, h3⟩ | ⟨h1, a, ha, b, hb, hab, hne⟩
    · have hasc : Asc (tidyF l) := by
        refine List.Pairwise.imp_of_mem ?_ (tidyF_lt l)
        intro a b ha hb hab
        have ha' := (h3 a).2 (.inr ((tidyF_mem a l).1 ha))
        have hb' := (h3 b).2 (.inr ((tidyF_mem b l).1 hb))
        unfold LtF at hab
        rcases hab with h | ⟨h, h'⟩
        · exact h
        · have := asc_inj h2 ha' hb' h
          subst this
          omega
      have his : isF (tidyF l) = true := (isF_iff _).2 ⟨fun x hx => hnn x ((tidyF_mem x l).1 hx), hasc⟩
      rw [his, h1]
      simp only [if_true, Prod.mk.injEq, and_true]
      exact asc_unique _ _ hasc h2 (fun x => by rw [tidyF_mem, h3]; simp)
    · have his : isF (tidyF l) = false := by
        cases h : isF (tidyF l)
        · rfl
        · exfalso
          have hasc := ((isF_iff _).1 h).2
          simp at ha hb
          have := asc_inj hasc ((tidyF_mem a l).2 ha) ((tidyF_mem b l).2 hb) hab
          rw [this] at hne
          exact hne rfl
      rw [his, h1]
      rfl
  · rfl
end Go.Proofs.Ytpogmkplmcedlaa
