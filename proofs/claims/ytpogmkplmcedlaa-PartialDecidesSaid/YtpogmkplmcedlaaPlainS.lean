/- Plain laws: proper lists of facts; Split and Count of the program and of the reference. -/
import Derived.Test.YtpogmkplmcedlaaSplit
import Derived.Test.YtpogmkplmcedlaaCount
namespace Go.Proofs.Ytpogmkplmcedlaa
open Go.RowKit

def InR (vars : List Int) (x : Fact) : Prop := x.1 < vars.length ∧ 0 ≤ x.2 ∧ x.2 < vars.getD x.1.toNat 0
theorem badP_iff (vars : List Int) (last x y : Int) : badP vars last x y = false ↔ last < x ∧ InR vars (x, y) := by
  unfold badP InR
  simp only [Bool.or_eq_false_iff, decide_eq_false_iff_not]
  constructor
  · rintro ⟨⟨⟨h1, h2⟩, h3⟩, h4⟩
    exact ⟨by omega, by omega, by omega, by omega⟩
  · rintro ⟨h1, h2, h3, h4⟩
    exact ⟨⟨⟨by omega, by omega⟩, by omega⟩, by omega⟩
theorem propL_iff (vars : List Int) (l : List Fact) : ∀ last : Int, propL vars last l = true ↔ Asc l ∧ ∀ x ∈ l, last < x.1 ∧ InR vars x := by
  induction l with
  | nil => intro last; simp [propL, Asc]
  | cons z r ih =>
    intro last
    obtain ⟨x, y⟩ := z
    rw [propL]
    cases hb : badP vars last x y
    · have hb' := (badP_iff vars last x y).1 hb
      simp only [Bool.false_eq_true, if_false]
      rw [ih x]
      constructor
      · rintro ⟨h1, h2⟩
        refine ⟨List.pairwise_cons.2 ⟨fun z hz => (h2 z hz).1, h1⟩, fun z hz => ?_⟩
        rcases List.mem_cons.1 hz with rfl | hz
        · exact hb'
        · have := h2 z hz
          exact ⟨by omega, this.2⟩
      · rintro ⟨h1, h2⟩
        obtain ⟨h3, h4⟩ := List.pairwise_cons.1 h1
        exact ⟨h4, fun z hz => ⟨h3 z hz, (h2 z (by simp [hz])).2⟩⟩
    · simp only [if_true]
      constructor
      · intro h; cases h
      · rintro ⟨_, h2⟩
        have := (badP_iff vars last x y).2 (h2 (x, y) (by simp))
        rw [hb] at this
        cases this
theorem propF_iff (vars : List Int) (l : List Fact) : propF vars l = true ↔ Asc l ∧ ∀ x ∈ l, 0 ≤ x.1 ∧ InR vars x := by
  rw [propF, propL_iff]
  constructor <;> rintro ⟨h1, h2⟩ <;> exact ⟨h1, fun x hx => ⟨by have := (h2 x hx).1; omega, (h2 x hx).2⟩⟩
theorem propF_nonneg {vars : List Int} {l : List Fact} (h : propF vars l = true) : Nonneg l := fun x hx => ⟨(((propF_iff vars l).1 h).2 x hx).1, (((propF_iff vars l).1 h).2 x hx).2.2.1⟩
theorem propF_isF {vars : List Int} {l : List Fact} (h : propF vars l = true) : isF l = true := (isF_iff l).2 ⟨propF_nonneg h, ((propF_iff vars l).1 h).1⟩
theorem valueF_of_mem {l : List Fact} (h : Asc l) {x : Fact} (hx : x ∈ l) : valueF l x.1 = x.2 := by
  induction l with
  | nil => cases hx
  | cons y r ih =>
    obtain ⟨y1, y2⟩ := y
    obtain ⟨h1, h2⟩ := List.pairwise_cons.1 h
    rw [valueF]
    rcases List.mem_cons.1 hx with rfl | hx
    · simp
    · have := h1 x hx
      rw [if_neg (by simp only at this; omega)]
      exact ih h2 hx
theorem valueF_absent {l : List Fact} {v : Int} (h : ∀ x ∈ l, x.1 ≠ v) : valueF l v = -1 := by
  induction l with
  | nil => rfl
  | cons y r ih =>
    obtain ⟨y1, y2⟩ := y
    rw [valueF, if_neg (h (y1, y2) (by simp)), ih (fun x hx => h x (by simp [hx]))]

theorem split_eq (vars : List Int) (p : List Fact) (v : Int) : splitF pwithF vars p v = splitF withF vars p v := by
  unfold splitF
  cases hp : propF vars p
  · rfl
  · simp only [if_true]
    split
    · split
      · rfl
      · rename_i hf
        have hno := valueF_none (propF_nonneg hp) (Int.not_le.1 hf)
        have hasc := ((propF_iff vars p).1 hp).1
        have : ∀ n, splitsOf pwithF p v n = splitsOf withF p v n := fun n => by
          unfold splitsOf
          exact List.map_congr_left (fun x _ => pwithF_eq p _ hasc hno)
        rw [this]
    · rfl

def prodL (p : List Fact) : Nat → List Int → Int
  | _, [] => 1
  | v, k :: r => if 0 ≤ valueF p v then prodL p (v + 1) r else k * prodL p (v + 1) r
theorem prodL_pos (p : List Fact) (r : List Int) : ∀ v, (∀ k ∈ r, 1 ≤ k) → 1 ≤ prodL p v r := by
  induction r with
  | nil => intro v _; simp [prodL]
  | cons k r ih =>
    intro v h
    have h1 := ih (v + 1) (fun k hk => h k (by simp [hk]))
    have h2 := h k (by simp)
    rw [prodL]
    split
    · exact h1
    · have := Int.mul_le_mul h2 h1 (by omega) (by omega)
      omega
theorem big_mul {n k P : Int} (h1 : 65537 ≤ n * k) (hP : 1 ≤ P) : 65537 ≤ n * (k * P) := by
  rw [← Int.mul_assoc]
  have := Int.mul_le_mul h1 hP (by omega) (by omega)
  omega
theorem countL_eq (p : List Fact) (r : List Int) : ∀ (v : Nat) (n : Int), (∀ k ∈ r, 1 ≤ k) → 1 ≤ n → n ≤ 65536 → countL p v n r = min (n * prodL p v r) 65537 := by
  induction r with
  | nil => intro v n _ h1 h2; simp only [countL, prodL]; omega
  | cons k r ih =>
    intro v n h h1 h2
    have hk := h k (by simp)
    have hr : ∀ k ∈ r, 1 ≤ k := fun k hk => h k (by simp [hk])
    have hP := prodL_pos p r (v + 1) hr
    rw [countL, prodL]
    split
    · exact ih (v + 1) n hr h1 h2
    · split
      · rename_i hbig
        have h3 : 65536 < k * n := (Int.ediv_lt_iff_lt_mul (by omega)).1 hbig
        have h4 : 65537 ≤ n * k := by rw [Int.mul_comm]; omega
        have := big_mul h4 hP
        omega
      · rename_i hbig
        obtain ⟨m1, m2⟩ := mul_room h1 h2 hk hbig
        rw [ih (v + 1) (n * k) hr m1 m2, Int.mul_assoc]
theorem rcountL_eq (p : List Fact) (r : List Int) : ∀ (v : Nat) (n : Int), (∀ k ∈ r, 1 ≤ k) → 1 ≤ n → n ≤ 65537 → rcountL p v n r = min (n * prodL p v r) 65537 := by
  induction r with
  | nil => intro v n _ h1 h2; simp only [rcountL, prodL]; omega
  | cons k r ih =>
    intro v n h h1 h2
    have hk := h k (by simp)
    have hr : ∀ k ∈ r, 1 ≤ k := fun k hk => h k (by simp [hk])
    have hP := prodL_pos p r (v + 1) hr
    rw [rcountL, prodL, if_neg (by omega)]
    by_cases hf : valueF p v < 0
    · rw [if_pos hf, if_neg (by omega)]
      obtain ⟨m1, m2⟩ := mul_small h1 h2 (show 1 ≤ min k 65537 by omega) (show min k 65537 ≤ 65537 by omega)
      rw [ih (v + 1) _ hr (by omega) (by omega)]
      by_cases hb : 65537 ≤ n * min k 65537
      · have e1 : min (n * min k 65537) 65537 = 65537 := by omega
        have h5 : n * min k 65537 ≤ n * k := Int.mul_le_mul_of_nonneg_left (by omega) (by omega)
        have := big_mul (show 65537 ≤ n * k by omega) hP
        have h6 : 65537 ≤ 65537 * prodL p (v + 1) r := by omega
        rw [e1]
        omega
      · have hk2 : min k 65537 = k := by
          by_cases hk2 : k ≤ 65537
          · omega
          · exfalso
            have e : min k 65537 = 65537 := by omega
            rw [e] at hb
            omega
        rw [hk2] at hb ⊢
        rw [show min (n * k) 65537 = n * k by omega, Int.mul_assoc]
    · rw [if_neg hf, if_pos (by omega)]
      exact ih (v + 1) n hr h1 h2
theorem rcountL_low (p : List Fact) (r : List Int) : ∀ (v : Nat) (n : Int), low r = true → rcountL p v n r = 0 := by
  induction r with
  | nil => intro v n h; simp [low] at h
  | cons k r ih =>
    intro v n h
    rw [rcountL]
    split
    · rfl
    · rename_i hk
      have h2 : low r = true := by
        simp only [low, List.any_cons, Bool.or_eq_true, decide_eq_true_eq] at h
        exact h.resolve_left hk
      split
      · exact ih _ _ h2
      · exact ih _ _ h2
theorem low_false {vars : List Int} (h : low vars = false) : ∀ k ∈ vars, 1 ≤ k := by
  intro k hk
  have := List.any_eq_false.1 h k hk
  simpa using this
theorem countF_prod {vars : List Int} {p : List Fact} (hp : propF vars p = true) (h : low vars = false) : countF vars p = min (prodL p 0 vars) 65537 := by
  rw [countF, hp, if_pos rfl, h, if_neg (by simp), countL_eq p vars 0 1 (low_false h) (by omega) (by omega), Int.one_mul]
theorem count_eq (vars : List Int) (p : List Fact) : countF vars p = rcountF vars p := by
  cases hp : propF vars p
  · simp [countF, rcountF, hp]
  · cases h : low vars
    · rw [countF_prod hp h, rcountF, hp, if_pos rfl, rcountL_eq p vars 0 1 (low_false h) (by omega) (by omega), Int.one_mul]
    · rw [countF, rcountF, hp, if_pos rfl, if_pos rfl, h, if_pos rfl, rcountL_low p vars 0 1 h]
end Go.Proofs.Ytpogmkplmcedlaa
