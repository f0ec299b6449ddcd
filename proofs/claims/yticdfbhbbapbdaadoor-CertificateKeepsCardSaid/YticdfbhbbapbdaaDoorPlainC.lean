/- Plain facts on certificates: what a check that passes gives; the text of a certificate. -/
import Derived.Test.YticdfbhbbapbdaaDoorCheck
import Derived.Lib.ItoaLen
namespace Go.Proofs.YticdfbhbbapbdaaDoor

theorem formedL_facts (l : List Fact) : ∀ (k : Nat) (p : Int), formedL k p l = true → ∀ x ∈ l, 0 ≤ x.1 ∧ x.1 < 64 ∧ 0 ≤ x.2 ∧ x.2 < 64 := by
  induction l with
  | nil => intro k p _ x hx; cases hx
  | cons y r ih =>
    obtain ⟨a, c⟩ := y
    intro k p h x hx
    rw [formedL] at h
    cases hb : badB a c p k
    · rw [hb] at h
      cases List.mem_cons.1 hx with
      | inl e => subst e; simp [badB] at hb; simp; omega
      | inr e => exact ih _ _ h x e
    · rw [hb] at h; cases h
theorem formedL_len (l : List Fact) : ∀ (k : Nat) (p : Int), 0 < k → 0 ≤ p → formedL k p l = true → (l.length : Int) + p ≤ 63 ∨ l = [] := by
  induction l with
  | nil => intro k p _ _ _; exact .inr rfl
  | cons y r ih =>
    obtain ⟨a, c⟩ := y
    intro k p hk hp h
    rw [formedL] at h
    cases hb : badB a c p k
    · rw [hb] at h
      simp [badB] at hb
      rcases ih (k + 1) a (by omega) (by omega) h with h1 | h1
      · left; simp; omega
      · left; subst h1; simp; omega
    · rw [hb] at h; cases h
theorem formedF_len {l : List Fact} (h : formedF l = true) : l.length ≤ 64 := by
  cases l with
  | nil => simp
  | cons y r =>
    obtain ⟨a, c⟩ := y
    rw [formedF, formedL] at h
    cases hb : badB a c 0 0
    · rw [hb] at h
      simp [badB] at hb
      rcases formedL_len r 1 a (by omega) (by omega) h with h1 | h1
      · simp; omega
      · subst h1; simp
    · rw [hb] at h; cases h
theorem formedF_facts {l : List Fact} (h : formedF l = true) : ∀ x ∈ l, 0 ≤ x.1 ∧ x.1 < 64 ∧ 0 ≤ x.2 ∧ x.2 < 64 := formedL_facts l 0 0 h

theorem checkF_zero {b : Int} {l : List Nogood} (h : checkF b l = 0) : -1 ≤ b ∧ b ≤ 1099511627776 ∧ l.length ≤ 4096 ∧ (∀ x ∈ l, formedF x.1 = true) ∧ ∀ x ∈ l, badDist b x.2 = false := by
  unfold checkF at h
  by_cases h1 : b < -1 ∨ 1099511627776 < b
  · rw [if_pos h1] at h; omega
  · rw [if_neg h1] at h
    by_cases h2 : 4096 < l.length
    · rw [if_pos h2] at h; omega
    · rw [if_neg h2] at h
      by_cases h3 : l.all (fun x => formedF x.1) = false
      · rw [if_pos h3] at h; omega
      · rw [if_neg h3] at h
        by_cases h4 : l.any (fun x => badDist b x.2) = true
        · rw [if_pos h4] at h; omega
        · refine ⟨by omega, by omega, by omega, ?_, ?_⟩
          · simpa using h3
          · simpa using h4
theorem badDist_range {b d : Int} (hb : -1 ≤ b) (h2 : b ≤ 1099511627776) (h : badDist b d = false) : 0 ≤ d ∧ d < 1099511627776 := by
  simp [badDist] at h; omega
theorem badDist_neg {b d : Int} (hb : b = -1) (h : badDist b d = false) : d = 0 := by
  simp [badDist] at h; omega

def lineB (d : Int) : List UInt8 := [110, 111, 103, 111, 111, 100, 32] ++ Lib.itoa d ++ [58]
def factB (x : Fact) : List UInt8 := [32] ++ Lib.itoa x.1 ++ [61] ++ Lib.itoa x.2
def headB (b : Int) : List UInt8 := if b < 0 then [117, 110, 115, 111, 108, 118, 97, 98, 108, 101, 10] else [108, 111, 119, 101, 114, 32] ++ Lib.itoa b ++ [10]
def nogoodB (x : Nogood) : List UInt8 := lineB x.2 ++ x.1.flatMap factB ++ [10]
def formatL : List UInt8 → List Nogood → Option (List UInt8)
  | acc, [] => some acc
  | acc, x :: r => if 65536 < (acc ++ nogoodB x).length then none else formatL (acc ++ nogoodB x) r
/-- the text, or nothing and the error's number -/
def formatF (b : Int) (l : List Nogood) : List UInt8 × Int :=
  if checkF b l ≠ 0 then ([], checkF b l) else match formatL (headB b) l with
    | some t => (t, 0)
    | none => ([], 5)

theorem lineB_len (d : Int) (h0 : 0 ≤ d) (h1 : d < 1099511627776) : (lineB d).length ≤ 29 := by
  have := Lib.itoa_length_le d (by omega) (by omega)
  simp [lineB]; omega
theorem factB_len (x : Fact) (h : 0 ≤ x.1 ∧ x.1 < 64 ∧ 0 ≤ x.2 ∧ x.2 < 64) : (factB x).length ≤ 44 := by
  have h1 := Lib.itoa_length_le x.1 (by omega) (by omega)
  have h2 := Lib.itoa_length_le x.2 (by omega) (by omega)
  simp [factB]; omega
theorem headB_len (b : Int) (h1 : b ≤ 1099511627776) : (headB b).length ≤ 29 := by
  unfold headB
  split
  · simp
  · have := Lib.itoa_length_le b (by omega) (by omega)
    simp; omega
end Go.Proofs.YticdfbhbbapbdaaDoor
