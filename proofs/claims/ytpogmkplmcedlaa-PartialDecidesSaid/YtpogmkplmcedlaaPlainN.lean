/- Plain law: Count of a split is the sum of the parts. -/
import Derived.Test.YtpogmkplmcedlaaPlainS
import Derived.Test.YtpogmkplmcedlaaContains
namespace Go.Proofs.Ytpogmkplmcedlaa
open Go.RowKit

section
variable {vars : List Int} {p : List Fact} {v x : Int} (hp : propF vars p = true) (hv0 : 0 ≤ v) (hv1 : v < vars.length) (hf : valueF p v < 0) (hx0 : 0 ≤ x) (hx1 : x < vars.getD v.toNat 0)
include hp hf
theorem pw_none : ∀ z ∈ p, z.1 ≠ v := valueF_none (propF_nonneg hp) hf
theorem pw_asc : Asc (pwithF p (v, x)) := pwithF_asc p (v, x) ((propF_iff vars p).1 hp).1 (pw_none hp hf)
theorem pw_value (u : Int) : valueF (pwithF p (v, x)) u = if u = v then x else valueF p u := by
  by_cases h : u = v
  · subst h
    rw [if_pos rfl]
    exact valueF_of_mem (pw_asc hp hf) ((pwithF_mem p (u, x) (u, x)).2 (.inr rfl))
  · rw [if_neg h]
    by_cases hu : ∃ z ∈ p, z.1 = u
    · obtain ⟨z, hz, rfl⟩ := hu
      rw [valueF_of_mem (pw_asc hp hf) ((pwithF_mem p (v, x) z).2 (.inl hz)), valueF_of_mem ((propF_iff vars p).1 hp).1 hz]
    · have h1 : ∀ z ∈ p, z.1 ≠ u := fun z hz e => hu ⟨z, hz, e⟩
      rw [valueF_absent h1, valueF_absent]
      intro z hz
      rcases (pwithF_mem p (v, x) z).1 hz with hz | rfl
      · exact h1 z hz
      · exact fun e => h e.symm
include hv0 hv1 hx0 hx1
theorem pw_prop : propF vars (pwithF p (v, x)) = true := by
  refine (propF_iff _ _).2 ⟨pw_asc hp hf, fun z hz => ?_⟩
  rcases (pwithF_mem p (v, x) z).1 hz with hz | rfl
  · exact ((propF_iff vars p).1 hp).2 z hz
  · exact ⟨hv0, hv1, hx0, hx1⟩
theorem pw_contains : ContainsF (pwithF p (v, x)) p = true := by
  unfold ContainsF
  rw [propF_isF (pw_prop hp hv0 hv1 hf hx0 hx1), propF_isF hp]
  simp only [Bool.true_and]
  refine List.all_eq_true.2 (fun z hz => ?_)
  rw [pw_value hp hf, if_neg (pw_none hp hf z hz), valueF_of_mem ((propF_iff vars p).1 hp).1 hz]
  simp
omit hv1 hx1 in
theorem pw_prodL (r : List Int) : ∀ k : Nat, (v.toNat < k → prodL (pwithF p (v, x)) k r = prodL p k r) ∧ (k ≤ v.toNat → v.toNat - k < r.length → prodL p k r = r.getD (v.toNat - k) 0 * prodL (pwithF p (v, x)) k r) := by
  induction r with
  | nil => intro k; exact ⟨fun _ => rfl, fun _ h => by simp at h⟩
  | cons z r ih =>
    intro k
    obtain ⟨i1, i2⟩ := ih (k + 1)
    constructor
    · intro h
      rw [prodL, prodL, i1 (by omega), pw_value hp hf, if_neg (show ¬ (k : Int) = v by omega)]
    · intro h hl
      by_cases hk : k = v.toNat
      · have e : (k : Int) = v := by omega
        rw [prodL, prodL, i1 (by omega), e, if_neg (by omega), pw_value hp hf, if_pos rfl, if_pos hx0, hk]
        simp
      · rw [prodL, prodL, pw_value hp hf, if_neg (show ¬ (k : Int) = v by omega), i2 (by omega) (by simp at hl; omega)]
        have e : v.toNat - k = (v.toNat - (k + 1)) + 1 := by omega
        rw [e, List.getD_cons_succ]
        split
        · rfl
        · rw [Int.mul_left_comm]
end

theorem sum_split {vars : List Int} {p : List Fact} {v : Int} (hp : propF vars p = true) (hv0 : 0 ≤ v) (hv1 : v < vars.length) (hf : valueF p v < 0) :
    ∃ C : Int, 0 ≤ C ∧ C ≤ 65537 ∧ (∀ x : Nat, x < (vars.getD v.toNat 0).toNat → countF vars (pwithF p (v, (x : Int))) = C) ∧ countF vars p = min ((vars.getD v.toNat 0).toNat * C) 65537 := by
  cases hl : low vars
  · have hall := low_false hl
    have hz1 : 1 ≤ vars.getD v.toNat 0 := by
      rw [List.getD_eq_getElem?_getD, List.getElem?_eq_getElem (by omega)]
      exact hall _ (List.getElem_mem _)
    have h0 := (pw_prodL hp hv0 hf (x := 0) (by omega) vars 0).2 (by omega) (by omega)
    have hP := prodL_pos (pwithF p (v, 0)) vars 0 hall
    have key : ∀ x : Nat, x < (vars.getD v.toNat 0).toNat → countF vars (pwithF p (v, (x : Int))) = min (prodL (pwithF p (v, 0)) 0 vars) 65537 := by
      intro x hx
      rw [countF_prod (pw_prop hp hv0 hv1 hf (by omega) (by omega)) hl]
      have h1 := (pw_prodL hp hv0 hf (x := (x : Int)) (by omega) vars 0).2 (by omega) (by omega)
      rw [h0] at h1
      rw [Int.eq_of_mul_eq_mul_left (show vars.getD (v.toNat - 0) 0 ≠ 0 by rw [Nat.sub_zero]; omega) h1]
    refine ⟨min (prodL (pwithF p (v, 0)) 0 vars) 65537, by omega, by omega, key, ?_⟩
    rw [countF_prod hp hl, h0, Nat.sub_zero]
    generalize vars.getD v.toNat 0 = z at *
    generalize prodL (pwithF p (v, 0)) 0 vars = P at *
    rw [show ((z.toNat : Nat) : Int) = z by omega]
    by_cases hb : P ≤ 65537
    · rw [show min P 65537 = P by omega]
    · rw [show min P 65537 = 65537 by omega]
      have h2 := Int.mul_le_mul hz1 (show 65537 ≤ P by omega) (by omega) (by omega)
      omega
  · refine ⟨0, by omega, by omega, fun x hx => ?_, ?_⟩
    · rw [countF, pw_prop hp hv0 hv1 hf (by omega) (by omega), if_pos rfl, hl, if_pos rfl]
    · rw [countF, hp, if_pos rfl, hl, if_pos rfl]
      omega
end Go.Proofs.Ytpogmkplmcedlaa
