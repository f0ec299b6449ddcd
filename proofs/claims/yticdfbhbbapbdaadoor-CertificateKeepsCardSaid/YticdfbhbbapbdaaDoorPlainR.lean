/- Plain laws of Sort and Reduce. -/
import Derived.Test.YticdfbhbbapbdaaDoorReduce
import Derived.Test.YticdfbhbbapbdaaDoorPlainF
namespace Go.Proofs.YticdfbhbbapbdaaDoor

theorem containsF_mem {a b : List Fact} (hb : Nonneg b) (h : containsF a b = true) : ∀ x ∈ b, x ∈ a := by
  intro x hx
  have h1 := List.all_eq_true.1 h x hx
  have h2 : valueF a x.1 = x.2 := by simpa using h1
  have h3 := valueF_mem (l := a) (v := x.1) (by rw [h2]; have := (hb x hx).2; omega)
  rw [h2] at h3
  exact h3
theorem sub_len : ∀ (b a : List Fact), b.Nodup → (∀ x ∈ b, x ∈ a) → b.length ≤ a.length
  | [], _, _, _ => by simp
  | x :: r, a, hn, h => by
    obtain ⟨h1, h2⟩ := List.nodup_cons.1 hn
    have hx := h x (by simp)
    have h3 := sub_len r (a.erase x) h2 (fun y hy => (List.mem_erase_of_ne (fun (e : y = x) => h1 (by rw [← e]; exact hy))).2 (h y (by simp [hy])))
    rw [List.length_erase_of_mem hx] at h3
    have h4 := List.length_pos_of_mem hx
    simp
    omega
theorem asc_nodup {b : List Fact} (h : Asc b) : b.Nodup := h.imp (fun {x y} h e => by rw [e] at h; omega)
theorem ContainsF_len {a b : List Fact} (h : ContainsF a b = true) : b.length ≤ a.length := by
  simp only [ContainsF, Bool.and_eq_true] at h
  obtain ⟨h1, h2⟩ := (isF_iff b).1 h.1.2
  exact sub_len b a (asc_nodup h2) (containsF_mem h1 h.2)
theorem skipN_false {i k : Nat} {a b : Nogood} (h : skipN i k a b = false) : k ≠ i ∧ b.2 ≤ a.2 ∧ ContainsF a.1 b.1 = true := by
  simp only [skipN, Bool.or_eq_false_iff, decide_eq_false_iff_not, Bool.not_eq_false'] at h
  exact ⟨h.1.1, by omega, h.2⟩
theorem keep_eq (i : Nat) (a : Nogood) (r : List Nogood) : ∀ (k : Nat) (q : Bool), keepP i a k r q = keepR i a k r q := by
  induction r with
  | nil => intro k q; rfl
  | cons b r ih =>
    intro k q
    rw [keepP, keepR]
    cases h : skipN i k a b
    · simp only [Bool.false_eq_true, if_false]
      rw [ih]
      congr 1
      obtain ⟨h1, h2, h3⟩ := skipN_false h
      have hl := ContainsF_len h3
      cases hb : badR i k a b
      · simp only [badR, Bool.or_eq_false_iff, decide_eq_false_iff_not] at hb
        have e1 : eqN a b = true := by simp only [eqN, Bool.and_eq_true, decide_eq_true_eq]; omega
        have e2 : decide (i < k) = true := by simp only [decide_eq_true_eq]; omega
        rw [e1, e2]
        simp
      · have e1 : (eqN a b && decide (i < k)) = false := by
          simp only [badR, Bool.or_eq_true, decide_eq_true_eq] at hb
          cases he : eqN a b
          · rfl
          · simp only [eqN, Bool.and_eq_true, decide_eq_true_eq] at he
            simp only [Bool.true_and, decide_eq_false_iff_not]
            omega
        rw [Bool.and_assoc, e1]
        simp
    · simp only [if_true]
      exact ih _ _
theorem red_eq (l r : List Nogood) : ∀ i, redP l i r = redR l i r := by
  induction r with
  | nil => intro i; rfl
  | cons a r ih => intro i; rw [redP, redR, keep_eq, ih]
theorem reduceC_eq (bd : Int) (l : List Nogood) : reduceC bd l = rreduceC bd l := by
  unfold reduceC rreduceC
  rw [red_eq]
theorem sortC_length (bd : Int) (l : List Nogood) : (sortC bd l).length = l.length := by
  unfold sortC
  split
  · exact (sortN_perm l).length_eq
  · rfl
end Go.Proofs.YticdfbhbbapbdaaDoor
