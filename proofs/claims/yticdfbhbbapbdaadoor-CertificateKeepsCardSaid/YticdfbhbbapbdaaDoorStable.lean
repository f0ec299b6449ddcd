/- Plain: swaps, rotations and merges of a row that is a function of its places. -/
import Derived.Test.YticdfbhbbapbdaaDoorBase
namespace Go.Proofs.YticdfbhbbapbdaaDoor

section
variable {Z : Type}
def swp (f : Nat → Z) (i j : Nat) : Nat → Z := fun k => if k = i then f j else if k = j then f i else f k
def PermF (N : Nat) (f g : Nat → Z) : Prop := ((List.range N).map g).Perm ((List.range N).map f)
theorem PermF.refl (N : Nat) (f : Nat → Z) : PermF N f f := List.Perm.refl _
theorem PermF.trans {N : Nat} {f g h : Nat → Z} (a : PermF N f g) (b : PermF N g h) : PermF N f h := List.Perm.trans b a
theorem swp_perm {N i j : Nat} (f : Nat → Z) (hi : i < N) (hj : j < N) : PermF N f (swp f i j) := by
  have h1 : ((List.range N).map (fun k => if k = i then j else if k = j then i else k)).Perm (List.range N) := by
    refine (List.perm_ext_iff_of_nodup ?_ List.nodup_range).2 (fun a => ?_)
    · unfold List.Nodup
      rw [List.pairwise_map]
      refine List.Pairwise.imp ?_ (List.nodup_range (n := N))
      intro a b hab
      repeat' split
      all_goals omega
    · simp only [List.mem_map, List.mem_range]
      constructor
      · rintro ⟨k, hk, rfl⟩
        repeat' split
        all_goals omega
      · intro ha
        refine ⟨if a = i then j else if a = j then i else a, ?_, ?_⟩
        · repeat' split
          all_goals omega
        · repeat' split
          all_goals omega
  have h2 := h1.map f
  unfold PermF
  have e : (List.range N).map (swp f i j) = ((List.range N).map (fun k => if k = i then j else if k = j then i else k)).map f := by
    rw [List.map_map]
    refine List.map_congr_left (fun k _ => ?_)
    simp only [Function.comp, swp]
    repeat' split
    all_goals rfl
  rw [e]
  exact h2
def swr (f : Nat → Z) (a b n : Nat) : Nat → Z := fun k => if a ≤ k ∧ k < a + n then f (k - a + b) else if b ≤ k ∧ k < b + n then f (k - b + a) else f k
theorem swr_zero (f : Nat → Z) (a b : Nat) : swr f a b 0 = f := by
  funext k
  unfold swr
  rw [if_neg (by omega), if_neg (by omega)]
theorem swr_succ (f : Nat → Z) (a b n : Nat) (h : a + n < b) : swp (swr f a b n) (a + n) (b + n) = swr f a b (n + 1) := by
  funext k
  unfold swp swr
  repeat' split
  all_goals first | rfl | (exact congrArg f (by omega)) | (exfalso; omega)
def rot (f : Nat → Z) (a m b : Nat) : Nat → Z := fun k => if a ≤ k ∧ k < b then (if k < a + (b - m) then f (k - a + m) else f (k - (b - m))) else f k
theorem rot_gt (f : Nat → Z) (a m b : Nat) (h1 : a < m) (h2 : m < b) (h : b - m < m - a) : rot f a m b = rot (swr f a m (b - m)) (a + (b - m)) m b := by
  funext k
  unfold rot swr
  repeat' split
  all_goals first | rfl | (exact congrArg f (by omega)) | (exfalso; omega)
theorem rot_lt (f : Nat → Z) (a m b : Nat) (h1 : a < m) (h2 : m < b) (h : m - a < b - m) : rot f a m b = rot (swr f a (b - (m - a)) (m - a)) a m (b - (m - a)) := by
  funext k
  unfold rot swr
  repeat' split
  all_goals first | rfl | (exact congrArg f (by omega)) | (exfalso; omega)
theorem rot_eq (f : Nat → Z) (a m b : Nat) (h1 : a ≤ m) (h : m - a = b - m) (h2 : m ≤ b) : rot f a m b = swr f a m (m - a) := by
  funext k
  unfold rot swr
  repeat' split
  all_goals first | rfl | (exact congrArg f (by omega)) | (exfalso; omega)
theorem rot_left (f : Nat → Z) (m b : Nat) : rot f m m b = f := by
  funext k
  unfold rot
  repeat' split
  all_goals first | rfl | (exact congrArg f (by omega)) | (exfalso; omega)
theorem rot_right (f : Nat → Z) (a m : Nat) : rot f a m m = f := by
  funext k
  unfold rot
  repeat' split
  all_goals first | rfl | (exact congrArg f (by omega)) | (exfalso; omega)
theorem rot_up (f : Nat → Z) (a k : Nat) (h : a ≤ k) : swp (rot f a (a + 1) (k + 1)) k (k + 1) = rot f a (a + 1) (k + 2) := by
  funext j
  unfold swp rot
  repeat' split
  all_goals first | rfl | (exact congrArg f (by omega)) | (exfalso; omega)
theorem rot_down (f : Nat → Z) (m k : Nat) (h0 : 0 < k) (h : k ≤ m) : swp (rot f k m (m + 1)) k (k - 1) = rot f (k - 1) m (m + 1) := by
  funext j
  unfold swp rot
  repeat' split
  all_goals first | rfl | (exact congrArg f (by omega)) | (exfalso; omega)

/-- the places from a to b hold what they held among them; the others are as they were -/
def Within (a b : Nat) (f g : Nat → Z) : Prop := (∀ k, ¬ (a ≤ k ∧ k < b) → g k = f k) ∧ ∀ k, a ≤ k → k < b → ∃ k', a ≤ k' ∧ k' < b ∧ g k = f k'
theorem Within.refl (a b : Nat) (f : Nat → Z) : Within a b f f := ⟨fun _ _ => rfl, fun k h1 h2 => ⟨k, h1, h2, rfl⟩⟩
theorem Within.trans {a b : Nat} {f g h : Nat → Z} (x : Within a b f g) (y : Within a b g h) : Within a b f h := by
  refine ⟨fun k hk => (y.1 k hk).trans (x.1 k hk), fun k h1 h2 => ?_⟩
  obtain ⟨k', h3, h4, e⟩ := y.2 k h1 h2
  obtain ⟨k'', h5, h6, e'⟩ := x.2 k' h3 h4
  exact ⟨k'', h5, h6, e.trans e'⟩
theorem Within.mono {a b a' b' : Nat} {f g : Nat → Z} (x : Within a b f g) (ha : a' ≤ a) (hb : b ≤ b') : Within a' b' f g := by
  refine ⟨fun k hk => x.1 k (by omega), fun k h1 h2 => ?_⟩
  by_cases hk : a ≤ k ∧ k < b
  · obtain ⟨k', h3, h4, e⟩ := x.2 k hk.1 hk.2
    exact ⟨k', by omega, by omega, e⟩
  · exact ⟨k, h1, h2, x.1 k hk⟩
theorem swp_within (f : Nat → Z) (a b i j : Nat) (hi : a ≤ i ∧ i < b) (hj : a ≤ j ∧ j < b) : Within a b f (swp f i j) := by
  refine ⟨fun k hk => ?_, fun k h1 h2 => ?_⟩
  · unfold swp
    rw [if_neg (by omega), if_neg (by omega)]
  · unfold swp
    repeat' split
    · exact ⟨j, by omega, by omega, rfl⟩
    · exact ⟨i, by omega, by omega, rfl⟩
    · exact ⟨k, by omega, by omega, rfl⟩
theorem rot_within (f : Nat → Z) (a m b : Nat) (h1 : a ≤ m) (h2 : m ≤ b) : Within a b f (rot f a m b) := by
  refine ⟨fun k hk => ?_, fun k h3 h4 => ?_⟩
  · unfold rot
    rw [if_neg hk]
  · unfold rot
    rw [if_pos ⟨h3, h4⟩]
    split
    · exact ⟨_, by omega, by omega, rfl⟩
    · exact ⟨_, by omega, by omega, rfl⟩

variable (lt : Z → Z → Bool)
def leB (x y : Z) : Prop := lt y x = false
def SortedOn (f : Nat → Z) (a b : Nat) : Prop := ∀ i j, a ≤ i → i < j → j < b → leB lt (f i) (f j)
structure Ord : Prop where
  trans : ∀ x y z, leB lt x y → leB lt y z → leB lt x z
  asym : ∀ x y, lt x y = true → leB lt x y
variable {lt}
theorem Ord.refl (o : Ord lt) (x : Z) : leB lt x x := by
  unfold leB
  cases h : lt x x
  · rfl
  · have := o.asym x x h
    unfold leB at this
    rw [h] at this
    cases this
theorem SortedOn.le (o : Ord lt) {f : Nat → Z} {a b i j : Nat} (h : SortedOn lt f a b) (h1 : a ≤ i) (h2 : i ≤ j) (h3 : j < b) : leB lt (f i) (f j) := by
  rcases Nat.lt_or_ge i j with hl | hl
  · exact h i j h1 hl h3
  · obtain rfl : i = j := by omega
    exact o.refl _
theorem SortedOn.small {f : Nat → Z} {a b : Nat} (h : b ≤ a + 1) : SortedOn lt f a b := fun i j h1 h2 h3 => by omega
theorem SortedOn.sub {f : Nat → Z} {a b a' b' : Nat} (h : SortedOn lt f a b) (h1 : a ≤ a') (h2 : b' ≤ b) : SortedOn lt f a' b' := fun i j i1 i2 i3 => h i j (by omega) i2 (by omega)
theorem SortedOn.off {f g : Nat → Z} {a b c d : Nat} (h : SortedOn lt f a b) (w : Within c d f g) (hd : b ≤ c ∨ d ≤ a) : SortedOn lt g a b := by
  intro i j i1 i2 i3
  rw [w.1 i (by omega), w.1 j (by omega)]
  exact h i j i1 i2 i3
theorem SortedOn.join {f : Nat → Z} {a m b : Nat} (h1 : SortedOn lt f a m) (h2 : SortedOn lt f m b) (h : ∀ i j, a ≤ i → i < m → m ≤ j → j < b → leB lt (f i) (f j)) : SortedOn lt f a b := by
  intro i j i1 i2 i3
  by_cases hi : i < m
  · by_cases hj : j < m
    · exact h1 i j i1 i2 hj
    · exact h i j i1 hi (by omega) i3
  · exact h2 i j (by omega) i2 i3
/-- one element from the left goes in -/
theorem ins_up (o : Ord lt) {f : Nat → Z} {a b i : Nat} (hs : SortedOn lt f (a + 1) b) (hi1 : a + 1 ≤ i) (hi2 : i ≤ b) (hl : a + 1 < i → lt (f (i - 1)) (f a) = true) (hr : i < b → lt (f i) (f a) = false) : SortedOn lt (rot f a (a + 1) i) a b := by
  intro p q p1 p2 p3
  unfold rot
  have key : ∀ k, a + 1 ≤ k → k < i → leB lt (f k) (f a) := fun k k1 k2 => o.trans _ _ _ (hs.le o k1 (show k ≤ i - 1 by omega) (by omega)) (o.asym _ _ (hl (by omega)))
  have key2 : ∀ k, i ≤ k → k < b → leB lt (f a) (f k) := fun k k1 k2 => o.trans _ _ _ (hr (by omega)) (hs.le o (by omega) k1 k2)
  repeat' split
  · exact hs.le o (by omega) (by omega) (by omega)
  · rw [show q - (i - (a + 1)) = a by omega]; exact key _ (by omega) (by omega)
  · exact hs.le o (by omega) (by omega) (by omega)
  · exfalso; omega
  · exfalso; omega
  · rw [show p - (i - (a + 1)) = a by omega]; exact key2 _ (by omega) (by omega)
  · exfalso; omega
  · exfalso; omega
  · exact hs.le o (by omega) (by omega) (by omega)
/-- one element from the right goes in -/
theorem ins_down (o : Ord lt) {f : Nat → Z} {a m i : Nat} (hs : SortedOn lt f a m) (hi1 : a ≤ i) (hi2 : i ≤ m) (hl : a < i → lt (f m) (f (i - 1)) = false) (hr : i < m → lt (f m) (f i) = true) : SortedOn lt (rot f i m (m + 1)) a (m + 1) := by
  intro p q p1 p2 p3
  unfold rot
  have key : ∀ k, a ≤ k → k < i → leB lt (f k) (f m) := fun k k1 k2 => o.trans _ _ _ (hs.le o k1 (show k ≤ i - 1 by omega) (by omega)) (hl (by omega))
  have key2 : ∀ k, i ≤ k → k < m → leB lt (f m) (f k) := fun k k1 k2 => o.trans _ _ _ (o.asym _ _ (hr (by omega))) (hs.le o (by omega) k1 k2)
  repeat' split
  · exfalso; omega
  · rw [show p - i + m = m by omega]; exact key2 _ (by omega) (by omega)
  · exfalso; omega
  · exfalso; omega
  · exact hs.le o (by omega) (by omega) (by omega)
  · exfalso; omega
  · rw [show q - i + m = m by omega]; exact key _ (by omega) (by omega)
  · exact hs.le o (by omega) (by omega) (by omega)
  · exact hs.le o (by omega) (by omega) (by omega)
/-- the cut of a symmetric merge -/
theorem sym_cut (o : Ord lt) {f : Nat → Z} {a m b mid s e : Nat} (h1 : SortedOn lt f a m) (h2 : SortedOn lt f m b) (ham : a < m) (hse : s + e = mid + m) (hs1 : a ≤ s) (hs2 : s ≤ m) (he1 : m ≤ e) (he2 : e ≤ b)
    (c1 : a < s → e < b → lt (f e) (f (s - 1)) = false) (c2 : s < m → m < e → lt (f (e - 1)) (f s) = true) :
    SortedOn lt (rot f s m e) a s ∧ SortedOn lt (rot f s m e) s mid ∧ SortedOn lt (rot f s m e) mid e ∧ SortedOn lt (rot f s m e) e b ∧ ∀ i j, a ≤ i → i < mid → mid ≤ j → j < b → leB lt (rot f s m e i) (rot f s m e j) := by
  have L : ∀ k, k < s → rot f s m e k = f k := fun k hk => by unfold rot; rw [if_neg (by omega)]
  have M1 : ∀ k, s ≤ k → k < mid → rot f s m e k = f (k - s + m) := fun k k1 k2 => by unfold rot; rw [if_pos (by omega), if_pos (by omega)]
  have M2 : ∀ k, mid ≤ k → k < e → rot f s m e k = f (k - (e - m)) := fun k k1 k2 => by unfold rot; rw [if_pos (by omega), if_neg (by omega)]
  have R : ∀ k, e ≤ k → rot f s m e k = f k := fun k hk => by unfold rot; rw [if_neg (by omega)]
  refine ⟨?_, ?_, ?_, ?_, ?_⟩
  · intro i j i1 i2 i3
    rw [L i (by omega), L j (by omega)]
    exact h1.le o (by omega) (by omega) (by omega)
  · intro i j i1 i2 i3
    rw [M1 i (by omega) (by omega), M1 j (by omega) (by omega)]
    exact h2.le o (by omega) (by omega) (by omega)
  · intro i j i1 i2 i3
    rw [M2 i (by omega) (by omega), M2 j (by omega) (by omega)]
    exact h1.le o (by omega) (by omega) (by omega)
  · intro i j i1 i2 i3
    rw [R i (by omega), R j (by omega)]
    exact h2.le o (by omega) (by omega) (by omega)
  · intro i j i1 i2 i3 i4
    by_cases hi : i < s
    · rw [L i hi]
      by_cases hj : j < e
      · rw [M2 j i3 hj]
        exact h1.le o (by omega) (by omega) (by omega)
      · rw [R j (by omega)]
        exact o.trans _ _ _ (h1.le o i1 (show i ≤ s - 1 by omega) (by omega)) (o.trans _ _ _ (c1 (by omega) (by omega)) (h2.le o (by omega) (by omega) i4))
    · rw [M1 i (by omega) i2]
      by_cases hj : j < e
      · rw [M2 j i3 hj]
        exact o.trans _ _ _ (h2.le o (by omega) (show i - s + m ≤ e - 1 by omega) (by omega)) (o.trans _ _ _ (o.asym _ _ (c2 (by omega) (by omega))) (h1.le o (by omega) (by omega) (by omega)))
      · rw [R j (by omega)]
        exact h2.le o (by omega) (by omega) (by omega)
/-- .. and the two halves merged -/
theorem sym_join {f g h : Nat → Z} {a mid b : Nat} (w1 : Within a mid f g) (w2 : Within mid b g h) (s1 : SortedOn lt g a mid) (s2 : SortedOn lt h mid b) (hc : ∀ i j, a ≤ i → i < mid → mid ≤ j → j < b → leB lt (f i) (f j)) : SortedOn lt h a b := by
  refine (s1.off w2 (.inl (Nat.le_refl _))).join s2 (fun i j i1 i2 i3 i4 => ?_)
  obtain ⟨j', j1, j2, ej⟩ := w2.2 j i3 i4
  obtain ⟨i', i5, i6, ei⟩ := w1.2 i i1 i2
  rw [w2.1 i (by omega), ei, ej, w1.1 j' (by omega)]
  exact hc i' j' i5 i6 j1 j2
/-- insertion: all is in order but the element at j, which is below those behind it -/
def Almost (lt : Z → Z → Bool) (f : Nat → Z) (a i j : Nat) : Prop := (∀ p q, a ≤ p → p < q → q < i → p ≠ j → q ≠ j → leB lt (f p) (f q)) ∧ ∀ q, j < q → q < i → leB lt (f j) (f q)
theorem almost_start {f : Nat → Z} {a i : Nat} (h : SortedOn lt f a i) : Almost lt f a (i + 1) i :=
  ⟨fun p q p1 p2 p3 _ h2 => h p q p1 p2 (by omega), fun q h1 h2 => by omega⟩
theorem almost_step {f : Nat → Z} {a i j : Nat} (h : Almost lt f a i j) (hj : a < j) (hi : j < i) (o : Ord lt) (hl : lt (f j) (f (j - 1)) = true) : Almost lt (swp f j (j - 1)) a i (j - 1) := by
  refine ⟨fun p q p1 p2 p3 n1 n2 => ?_, fun q q1 q2 => ?_⟩
  · unfold swp
    rw [if_neg n1, if_neg n2]
    by_cases hp : p = j
    · rw [if_pos hp, if_neg (show ¬ q = j by omega)]
      exact h.1 (j - 1) q (by omega) (by omega) p3 (by omega) (by omega)
    · by_cases hq : q = j
      · rw [if_neg hp, if_pos hq]
        exact h.1 p (j - 1) p1 (by omega) (by omega) hp (by omega)
      · rw [if_neg hp, if_neg hq]
        exact h.1 p q p1 p2 p3 hp hq
  · unfold swp
    rw [if_neg (show ¬ j - 1 = j by omega), if_pos rfl]
    by_cases hq : q = j
    · rw [if_pos hq]
      exact o.asym _ _ hl
    · rw [if_neg hq, if_neg (by omega)]
      exact h.2 q (by omega) q2
theorem almost_done {f : Nat → Z} {a i j : Nat} (h : Almost lt f a i j) (hj : a ≤ j) (o : Ord lt) (hl : a < j → lt (f j) (f (j - 1)) = false) : SortedOn lt f a i := by
  intro p q p1 p2 p3
  by_cases hp : p = j
  · subst hp
    exact h.2 q p2 p3
  · by_cases hq : q = j
    · subst hq
      have h1 : leB lt (f (q - 1)) (f q) := hl (by omega)
      by_cases hpq : p = q - 1
      · rw [hpq]; exact h1
      · exact o.trans _ _ _ (h.1 p (q - 1) p1 (by omega) (by omega) hp (by omega)) h1
    · exact h.1 p q p1 p2 p3 hp hq
end
end Go.Proofs.YticdfbhbbapbdaaDoor
