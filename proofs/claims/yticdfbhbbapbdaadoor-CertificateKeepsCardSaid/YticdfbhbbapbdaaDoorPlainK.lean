/- Plain laws behind CertificateKeeps. -/
import Derived.Test.YticdfbhbbapbdaaDoorPlainR
import Derived.Test.YticdfbhbbapbdaaDoorPlainC
import Derived.Test.YticdfbhbbapbdaaDoorClaims
namespace Go.Proofs.YticdfbhbbapbdaaDoor

def Bel (b a : Nogood) : Prop := b.2 ≤ a.2 ∧ ContainsF a.1 b.1 = true
theorem skipN_iff {i k : Nat} {a b : Nogood} : skipN i k a b = false ↔ k ≠ i ∧ Bel b a := by
  simp only [skipN, Bel, Bool.or_eq_false_iff, decide_eq_false_iff_not, Bool.not_eq_false']
  constructor
  · rintro ⟨⟨h1, h2⟩, h3⟩; exact ⟨h1, by omega, h3⟩
  · rintro ⟨h1, h2, h3⟩; exact ⟨⟨h1, by omega⟩, h3⟩
theorem keepP_iff (i : Nat) (a : Nogood) (r : List Nogood) : ∀ (k : Nat) (q : Bool), keepP i a k r q = true ↔ q = true ∧ ∀ (j : Nat) (b : Nogood), r[j]? = some b → skipN i (k + j) a b = false → eqN a b = true ∧ i < k + j := by
  induction r with
  | nil => intro k q; simp [keepP]
  | cons b r ih =>
    intro k q
    rw [keepP]
    cases h : skipN i k a b
    · simp only [Bool.false_eq_true, if_false]
      rw [ih]
      constructor
      · rintro ⟨h1, h2⟩
        simp only [Bool.and_eq_true, decide_eq_true_eq] at h1
        refine ⟨h1.1.1, fun j c hc hs => ?_⟩
        cases j with
        | zero => simp at hc; subst hc; exact ⟨h1.1.2, h1.2⟩
        | succ j =>
          have e : k + (j + 1) = k + 1 + j := by omega
          rw [e] at hs ⊢
          exact h2 j c (by simpa using hc) hs
      · rintro ⟨h1, h2⟩
        have h0 := h2 0 b rfl h
        refine ⟨by simp [h1, h0.1]; exact h0.2, fun j c hc hs => ?_⟩
        have e : k + 1 + j = k + (j + 1) := by omega
        rw [e] at hs ⊢
        exact h2 (j + 1) c (by simpa using hc) hs
    · simp only [if_true]
      rw [ih]
      constructor
      · rintro ⟨h1, h2⟩
        refine ⟨h1, fun j c hc hs => ?_⟩
        cases j with
        | zero => simp at hc; subst hc; rw [Nat.add_zero, h] at hs; cases hs
        | succ j =>
          have e : k + (j + 1) = k + 1 + j := by omega
          rw [e] at hs ⊢
          exact h2 j c (by simpa using hc) hs
      · rintro ⟨h1, h2⟩
        refine ⟨h1, fun j c hc hs => ?_⟩
        have e : k + 1 + j = k + (j + 1) := by omega
        rw [e] at hs ⊢
        exact h2 (j + 1) c (by simpa using hc) hs
theorem kept_iff {l : List Nogood} {i : Nat} {a : Nogood} : keepP i a 0 l true = true ↔ ∀ (j : Nat) (b : Nogood), l[j]? = some b → j ≠ i → Bel b a → eqN a b = true ∧ i < j := by
  rw [keepP_iff]
  constructor
  · rintro ⟨_, h⟩ j b hb hj hB
    have := h j b hb (by rw [Nat.zero_add]; exact skipN_iff.2 ⟨hj, hB⟩)
    simpa using this
  · intro h
    refine ⟨rfl, fun j b hb hs => ?_⟩
    rw [Nat.zero_add] at hs ⊢
    obtain ⟨h1, h2⟩ := skipN_iff.1 hs
    exact h j b hb h1 h2
theorem red_sub (l r : List Nogood) : ∀ i, (redP l i r).Sublist r := by
  induction r with
  | nil => intro i; simp [redP]
  | cons a r ih =>
    intro i
    rw [redP]
    split
    · exact (ih _).cons_cons a
    · exact (ih _).cons a
theorem red_mem {l r : List Nogood} {a : Nogood} : ∀ i, a ∈ redP l i r → ∃ j, r[j]? = some a ∧ keepP (i + j) a 0 l true = true := by
  induction r with
  | nil => intro i h; simp [redP] at h
  | cons b r ih =>
    intro i h
    rw [redP] at h
    have hr : a ∈ redP l (i + 1) r → ∃ j, (b :: r)[j]? = some a ∧ keepP (i + j) a 0 l true = true := fun h => by
      obtain ⟨j, h1, h2⟩ := ih _ h
      exact ⟨j + 1, by simpa using h1, by rw [← Nat.add_assoc, Nat.add_right_comm]; exact h2⟩
    split at h
    · rename_i hk
      rcases List.mem_cons.1 h with rfl | h
      · exact ⟨0, rfl, hk⟩
      · exact hr h
    · exact hr h
theorem mem_red {l r : List Nogood} {a : Nogood} : ∀ (i j : Nat), r[j]? = some a → keepP (i + j) a 0 l true = true → a ∈ redP l i r := by
  induction r with
  | nil => intro i j h; simp at h
  | cons b r ih =>
    intro i j h hk
    rw [redP]
    cases j with
    | zero =>
      simp at h
      subst h
      rw [if_pos (by simpa using hk)]
      simp
    | succ j =>
      have := ih (i + 1) j (by simpa using h) (by rw [Nat.add_right_comm]; exact hk)
      split
      · exact List.mem_cons_of_mem _ this
      · exact this
theorem valueF_in {l : List Fact} (h : Asc l) {x : Fact} (hx : x ∈ l) : valueF l x.1 = x.2 := by
  induction l with
  | nil => cases hx
  | cons y r ih =>
    obtain ⟨a, b⟩ := y
    rw [valueF]
    obtain ⟨h1, h2⟩ := List.pairwise_cons.1 h
    rcases List.mem_cons.1 hx with rfl | hx
    · rw [if_pos rfl]
    · rw [if_neg (fun e => by have := h1 x hx; simp only at this; omega)]
      exact ih h2 hx
theorem bel_back {a b : Nogood} (h : Bel b a) (he : eqN a b = true) : Bel a b := by
  obtain ⟨h1, h2⟩ := h
  simp only [eqN, Bool.and_eq_true, decide_eq_true_eq] at he
  refine ⟨by omega, ?_⟩
  simp only [ContainsF, Bool.and_eq_true] at h2 ⊢
  obtain ⟨⟨ha, hb⟩, hc⟩ := h2
  refine ⟨⟨hb, ha⟩, ?_⟩
  obtain ⟨_, haa⟩ := (isF_iff _).1 ha
  obtain ⟨hbn, hba⟩ := (isF_iff _).1 hb
  have hsub := containsF_mem hbn hc
  have hall : ∀ x ∈ a.1, x ∈ b.1 := fun x hx => by
    by_cases hxb : x ∈ b.1
    · exact hxb
    · have := sub_len (x :: b.1) a.1 (List.nodup_cons.2 ⟨hxb, asc_nodup hba⟩) (fun y hy => by
        rcases List.mem_cons.1 hy with rfl | hy
        · exact hx
        · exact hsub y hy)
      simp at this
      omega
  refine List.all_eq_true.2 (fun x hx => ?_)
  simp [valueF_in hba (hall x hx)]
theorem red_pair (l : List Nogood) (r : List Nogood) : ∀ i, r = l.drop i → (redP l i r).Pairwise (fun a b => ¬ Bel a b ∧ ¬ Bel b a) := by
  induction r with
  | nil => intro i _; simp [redP]
  | cons a r ih =>
    intro i hr
    have hr2 : r = l.drop (i + 1) := by rw [← List.tail_drop, ← hr]; rfl
    have hla : l[i]? = some a := by
      have : (l.drop i)[0]? = some a := by rw [← hr]; rfl
      simpa using this
    have hi := ih (i + 1) hr2
    rw [redP]
    split
    · rename_i hk
      refine List.pairwise_cons.2 ⟨fun b hb => ?_, hi⟩
      obtain ⟨j, hj, hkb⟩ := red_mem _ hb
      have hlb : l[i + 1 + j]? = some b := by rw [hr2] at hj; simpa using hj
      have k1 := kept_iff.1 hk
      have k2 := kept_iff.1 hkb
      have g1 : ¬ Bel a b := fun h => by
        have := (k2 i a hla (by omega) h).2
        omega
      refine ⟨g1, fun h => ?_⟩
      exact g1 (bel_back h (k1 _ b hlb (by omega) h).1)
    · exact hi
theorem red_apart {l : List Nogood} {i k : Nat} {a b : Nogood} (ha : (redP l 0 l)[i]? = some a) (hb : (redP l 0 l)[k]? = some b) (h : i ≠ k) : ¬ Bel b a := by
  have hp := List.pairwise_iff_getElem.1 (red_pair l l 0 rfl)
  obtain ⟨h1, rfl⟩ := List.getElem?_eq_some_iff.1 ha
  obtain ⟨h2, rfl⟩ := List.getElem?_eq_some_iff.1 hb
  rcases Nat.lt_or_gt_of_ne h with h | h
  · exact (hp i k h1 h2 h).2
  · exact (hp k i h2 h1 h).1
theorem red_all {l : List Nogood} (h : ∀ (i k : Nat) (a b : Nogood), l[i]? = some a → l[k]? = some b → i ≠ k → ¬ Bel b a) (r : List Nogood) : ∀ i, r = l.drop i → redP l i r = r := by
  induction r with
  | nil => intro i _; simp [redP]
  | cons a r ih =>
    intro i hr
    have hr2 : r = l.drop (i + 1) := by rw [← List.tail_drop, ← hr]; rfl
    have hla : l[i]? = some a := by
      have : (l.drop i)[0]? = some a := by rw [← hr]; rfl
      simpa using this
    rw [redP, if_pos (kept_iff.2 (fun j b hb hj hB => absurd hB (h i j a b hla hb (fun e => hj e.symm)))), ih _ hr2]
theorem check_sub {bd : Int} {l r : List Nogood} (h : checkF bd l = 0) (hr : r.Sublist l) : checkF bd r = 0 := by
  obtain ⟨h1, h2, h3, h4, h5⟩ := checkF_zero h
  have := hr.length_le
  unfold checkF
  rw [if_neg (by omega), if_neg (by omega), if_neg, if_neg]
  · simp only [List.any_eq_true, not_exists, not_and]
    intro x hx
    rw [h5 x (hr.subset hx)]
    simp
  · simp only [List.all_eq_false, not_exists, not_and]
    intro x hx
    rw [h4 x (hr.subset hx)]
    simp
theorem check_perm {bd : Int} {l r : List Nogood} (hr : r.Perm l) : checkF bd r = checkF bd l := by
  unfold checkF
  rw [hr.length_eq, hr.all_eq, hr.any_eq]
theorem reduceC_idem (bd : Int) (l : List Nogood) : reduceC bd (reduceC bd l) = reduceC bd l := by
  by_cases h : checkF bd l = 0
  · have e : reduceC bd l = redP l 0 l := if_pos h
    rw [e]
    unfold reduceC
    rw [if_pos (check_sub h (red_sub l l 0))]
    exact red_all (fun i k a b ha hb hne => red_apart ha hb hne) _ 0 rfl
  · have e : reduceC bd l = l := if_neg h
    rw [e, e]
theorem sortC_idem (bd : Int) (l : List Nogood) : sortC bd (sortC bd l) = sortC bd l := by
  by_cases h : checkF bd l = 0
  · have e : sortC bd l = sortN l := if_pos h
    rw [e]
    unfold sortC
    rw [if_pos ((check_perm (sortN_perm l)).trans h)]
    exact (sortN_unique (List.Perm.refl _) (sortN_sorted l)).symm
  · have e : sortC bd l = l := if_neg h
    rw [e, e]
theorem claims_sort (bd : Int) (l : List Nogood) (s : List Int) (d : Int) : claimsF bd (sortC bd l) s d = claimsF bd l s d := by
  by_cases h : checkF bd l = 0
  · have e : sortC bd l = sortN l := if_pos h
    rw [e]
    unfold claimsF
    rw [check_perm (sortN_perm l), (sortN_perm l).any_eq]
  · have e : sortC bd l = l := if_neg h
    rw [e]
theorem holds_bel {a b : Nogood} {s : List Int} (h : Bel b a) (ha : holdsF a.1 s = true) : holdsF b.1 s = true := by
  have h2 := h.2
  simp only [ContainsF, Bool.and_eq_true] at h2
  obtain ⟨hbn, _⟩ := (isF_iff _).1 h2.1.2
  have hsub := containsF_mem hbn h2.2
  exact List.all_eq_true.2 (fun x hx => List.all_eq_true.1 ha x (hsub x hx))
theorem descend (l : List Nogood) (hpos : ∀ x ∈ l, 0 ≤ x.2) (P : Nogood → Prop) (hP : ∀ a b, Bel b a → P a → P b) (i : Nat) (x : Nogood) (hx : l[i]? = some x) (hPx : P x) : ∃ y ∈ redP l 0 l, P y := by
  by_cases hk : keepP i x 0 l true = true
  · exact ⟨x, mem_red 0 i hx (by rw [Nat.zero_add]; exact hk), hPx⟩
  · rw [kept_iff] at hk
    simp only [Classical.not_forall] at hk
    obtain ⟨j, b, hb, hj, hB, hne⟩ := hk
    have hx0 := hpos x (List.mem_of_getElem? hx)
    have hb0 := hpos b (List.mem_of_getElem? hb)
    have hl := ContainsF_len hB.2
    have hle := hB.1
    have hlex : b.2.toNat < x.2.toNat ∨ (b.2.toNat = x.2.toNat ∧ (b.1.length < x.1.length ∨ (b.1.length = x.1.length ∧ j < i))) := by
      by_cases h1 : b.2 = x.2
      · refine .inr ⟨by omega, ?_⟩
        by_cases h2 : b.1.length = x.1.length
        · refine .inr ⟨h2, ?_⟩
          by_cases h3 : j < i
          · exact h3
          · exact absurd ⟨by simp only [eqN, Bool.and_eq_true, decide_eq_true_eq]; omega, by omega⟩ hne
        · exact .inl (by omega)
      · exact .inl (by omega)
    exact descend l hpos P hP j b hb (hP x b hB hPx)
termination_by (x.2.toNat, x.1.length, i)
decreasing_by
  rcases hlex with h | ⟨h1, h2 | ⟨h2, h3⟩⟩
  · exact Prod.Lex.left _ _ h
  · rw [h1]; exact Prod.Lex.right _ (Prod.Lex.left _ _ h2)
  · rw [h1, h2]; exact Prod.Lex.right _ (Prod.Lex.right _ h3)
theorem claims_reduce (bd : Int) (l : List Nogood) (s : List Int) (d : Int) : claimsF bd (reduceC bd l) s d = claimsF bd l s d := by
  by_cases h : checkF bd l = 0
  · have e : reduceC bd l = redP l 0 l := if_pos h
    rw [e]
    unfold claimsF
    rw [check_sub h (red_sub l l 0), h, if_pos rfl]
    rw [Bool.eq_iff_iff]
    simp only [List.any_eq_true, if_true]
    constructor
    · rintro ⟨x, hx, hp⟩
      exact ⟨x, (red_sub l l 0).subset hx, hp⟩
    · rintro ⟨x, hx, hp⟩
      obtain ⟨i, hi⟩ := List.getElem?_of_mem hx
      obtain ⟨c1, c2, _, _, c5⟩ := checkF_zero h
      exact descend l (fun x hx => (badDist_range c1 c2 (c5 x hx)).1) (fun x => (decide (x.2 ≤ d) && holdsF x.1 s) = true) (fun a b hB hp => by
        simp only [Bool.and_eq_true, decide_eq_true_eq] at hp ⊢
        exact ⟨Int.le_trans hB.1 hp.1, holds_bel hB hp.2⟩) i x hi hp
  · have e : reduceC bd l = l := if_neg h
    rw [e]
end Go.Proofs.YticdfbhbbapbdaaDoor
