/- Plain laws of lists of facts: ascending, contains, with. -/
import Derived.Test.YticdfbhbbapbdaaDoorValue
import Derived.Test.YticdfbhbbapbdaaDoorIs
namespace Go.Proofs.YticdfbhbbapbdaaDoor

def Asc (l : List Fact) : Prop := l.Pairwise fun a b => a.1 < b.1
def LeF (a b : Fact) : Prop := a.1 < b.1 ∨ (a.1 = b.1 ∧ a.2 ≤ b.2)
def LtF (a b : Fact) : Prop := a.1 < b.1 ∨ (a.1 = b.1 ∧ a.2 < b.2)
def Nonneg (l : List Fact) : Prop := ∀ x ∈ l, 0 ≤ x.1 ∧ 0 ≤ x.2
def Conflict (l : List Fact) : Prop := ∃ a ∈ l, ∃ b ∈ l, a.1 = b.1 ∧ a.2 ≠ b.2

theorem isL_iff (l : List Fact) : ∀ (k : Nat) (p : Int), isL k p l = true ↔ Nonneg l ∧ Asc l ∧ (0 < k → ∀ x ∈ l, p < x.1) := by
  induction l with
  | nil => intro k p; simp [isL, Nonneg, Asc]
  | cons y r ih =>
    obtain ⟨a, c⟩ := y
    intro k p
    rw [isL]
    cases hb : badI a c p k
    · simp only [Bool.false_eq_true, if_false]
      rw [ih]
      simp [badI] at hb
      constructor
      · rintro ⟨h1, h2, h3⟩
        refine ⟨fun x hx => ?_, ?_, fun hk x hx => ?_⟩
        · rcases List.mem_cons.1 hx with rfl | h
          · exact ⟨by omega, by omega⟩
          · exact h1 x h
        · exact List.pairwise_cons.2 ⟨fun x hx => h3 (by omega) x hx, h2⟩
        · rcases List.mem_cons.1 hx with rfl | h
          · simp; omega
          · have := h3 (by omega) x h; omega
      · rintro ⟨h1, h2, h3⟩
        have h2' := List.pairwise_cons.1 h2
        exact ⟨fun x hx => h1 x (by simp [hx]), h2'.2, fun _ x hx => h2'.1 x hx⟩
    · simp only [if_true]
      constructor
      · intro h; cases h
      · rintro ⟨h1, h2, h3⟩
        exfalso
        have h0 := h1 (a, c) (by simp)
        have h4 : 0 < k → p < a := fun hk => h3 hk (a, c) (by simp)
        simp [badI] at hb
        simp at h0
        omega
theorem isF_iff (l : List Fact) : isF l = true ↔ Nonneg l ∧ Asc l := by
  rw [isF, isL_iff]
  simp

theorem asc_inj {l : List Fact} (h : Asc l) {a b : Fact} (ha : a ∈ l) (hb : b ∈ l) (e : a.1 = b.1) : a = b := by
  induction l with
  | nil => cases ha
  | cons z r ih =>
    obtain ⟨h1, h2⟩ := List.pairwise_cons.1 h
    rcases List.mem_cons.1 ha with ea | ha'
    · rcases List.mem_cons.1 hb with eb | hb'
      · rw [ea, eb]
      · have := h1 b hb'; rw [← ea] at this; omega
    · rcases List.mem_cons.1 hb with eb | hb'
      · have := h1 a ha'; rw [← eb] at this; omega
      · exact ih h2 ha' hb'
theorem asc_unique (a : List Fact) : ∀ b : List Fact, Asc a → Asc b → (∀ x, x ∈ a ↔ x ∈ b) → a = b := by
  induction a with
  | nil =>
    intro b _ _ h
    cases b with
    | nil => rfl
    | cons y s => have := (h y).2 (by simp); cases this
  | cons x r ih =>
    intro b ha hb h
    cases b with
    | nil => have := (h x).1 (by simp); cases this
    | cons y s =>
      obtain ⟨a1, a2⟩ := List.pairwise_cons.1 ha
      obtain ⟨b1, b2⟩ := List.pairwise_cons.1 hb
      have hxy : x = y := by
        rcases List.mem_cons.1 ((h x).1 (by simp)) with e | hx
        · exact e
        · rcases List.mem_cons.1 ((h y).2 (by simp)) with e | hy
          · exact e.symm
          · have := b1 x hx; have := a1 y hy; omega
      subst hxy
      congr 1
      refine ih s a2 b2 (fun z => ⟨fun hz => ?_, fun hz => ?_⟩)
      · rcases List.mem_cons.1 ((h z).1 (by simp [hz])) with e | hz'
        · subst e; have := a1 z hz; omega
        · exact hz'
      · rcases List.mem_cons.1 ((h z).2 (by simp [hz])) with e | hz'
        · subst e; have := b1 z hz; omega
        · exact hz'

theorem valueF_mem {l : List Fact} {v : Int} (h : valueF l v ≠ -1) : (v, valueF l v) ∈ l := by
  induction l with
  | nil => simp [valueF] at h
  | cons y r ih =>
    obtain ⟨a, c⟩ := y
    rw [valueF] at h ⊢
    split at h
    · rename_i e; subst e; rw [if_pos rfl]; simp
    · rename_i e; rw [if_neg e]; simp [ih h]
theorem valueF_none {l : List Fact} {v : Int} (hn : Nonneg l) (h : valueF l v < 0) : ∀ x ∈ l, x.1 ≠ v := by
  induction l with
  | nil => intro x hx; cases hx
  | cons y r ih =>
    obtain ⟨a, c⟩ := y
    intro x hx
    rw [valueF] at h
    split at h
    · have := hn (a, c) (by simp); simp at this; omega
    · rename_i e
      rcases List.mem_cons.1 hx with rfl | hx
      · exact e
      · exact ih (fun z hz => hn z (by simp [hz])) h x hx

theorem withL_mem (x z : Fact) (l : List Fact) : ∀ (p : Bool) (acc : List Fact), z ∈ withL x p acc l ↔ z ∈ acc ∨ z ∈ l ∨ (p = false ∧ z = x) := by
  induction l with
  | nil => intro p acc; rw [withL]; cases p <;> simp
  | cons y r ih =>
    intro p acc
    rw [withL]
    split
    · rename_i h
      have hp : p = false := by cases p <;> simp_all
      subst hp
      rw [ih]
      simp only [List.mem_append, List.mem_cons, List.not_mem_nil, or_false]
      grind
    · rw [ih]
      simp only [List.mem_append, List.mem_cons, List.not_mem_nil, or_false]
      grind
theorem withF_mem (x z : Fact) (l : List Fact) : z ∈ withF l x ↔ z ∈ l ∨ z = x := by rw [withF, withL_mem]; simp
theorem withL_asc (x : Fact) (l : List Fact) : ∀ (p : Bool) (acc : List Fact), Asc (acc ++ l) → (∀ z ∈ l, z.1 ≠ x.1) → (p = true → ∀ z ∈ l, x.1 < z.1) → (p = false → ∀ z ∈ acc, z.1 < x.1) → Asc (withL x p acc l) := by
  induction l with
  | nil =>
    intro p acc h _ _ h3
    rw [withL]
    cases p
    · simp only [Bool.false_eq_true, if_false]
      exact List.pairwise_append.2 ⟨by simpa [Asc] using h, by simp, fun a ha b hb => by simp at hb; subst hb; exact h3 rfl a ha⟩
    · simpa [Asc] using h
  | cons y r ih =>
    intro p acc h h1 h2 h3
    have hy := h1 y (by simp)
    obtain ⟨g1, g2, g3⟩ := List.pairwise_append.1 h
    obtain ⟨g4, g5⟩ := List.pairwise_cons.1 g2
    rw [withL]
    split
    · rename_i hc
      have hp : p = false := by cases p <;> simp_all
      subst hp
      have hxy : x.1 < y.1 := by simpa using hc
      refine ih true _ ?_ (fun z hz => h1 z (by simp [hz])) (fun _ z hz => by have := g4 z hz; omega) (fun h => by cases h)
      rw [List.append_assoc, List.append_assoc]
      refine List.pairwise_append.2 ⟨g1, ?_, fun a ha b hb => ?_⟩
      · simp only [List.cons_append, List.nil_append]
        refine List.pairwise_cons.2 ⟨fun b hb => ?_, g2⟩
        rcases List.mem_cons.1 hb with rfl | hb
        · exact hxy
        · have := g4 b hb; omega
      · have hax := h3 rfl a ha
        simp only [List.cons_append, List.nil_append, List.mem_cons] at hb
        rcases hb with rfl | rfl | hb
        · exact hax
        · omega
        · have := g4 b hb; omega
    · rename_i hc
      refine ih p _ (by rw [List.append_assoc]; exact h) (fun z hz => h1 z (by simp [hz])) (fun hp z hz => h2 hp z (by simp [hz])) (fun hp z hz => ?_)
      rcases List.mem_append.1 hz with hz | hz
      · exact h3 hp z hz
      · simp at hz
        subst hz
        subst hp
        simp at hc
        omega
theorem withF_asc {l : List Fact} {x : Fact} (h : Asc l) (hx : ∀ z ∈ l, z.1 ≠ x.1) : Asc (withF l x) :=
  withL_asc x l false [] (by simpa using h) hx (fun h => by cases h) (fun _ z hz => by cases hz)

end Go.Proofs.YticdfbhbbapbdaaDoor
