/- Plain: whether a partial state is covered by a list: the decision of the program and of the reference are the same. -/
import Derived.Test.YtpogmkplmcedlaaPlainN
import Derived.Test.YtpogmkplmcedlaaClash
namespace Go.Proofs.Ytpogmkplmcedlaa
open Go.RowKit

/-- the least free variable of an element, of a list -/
def leastP (r : List Fact) : Int → List Fact → Int
  | m, [] => m
  | m, x :: t => leastP r (if valueF r x.1 < 0 then min m x.1 else m) t
def leastA (r : List Fact) : Int → List (List Fact) → Int
  | m, [] => m
  | m, p :: t => leastA r (leastP r m p) t
def leastL (r : List Fact) : Int → List (List Fact) → Int
  | m, [] => m
  | m, p :: t => leastL r (if clashF r p then m else leastP r m p) t
def loopF (f : Int → Int → Bool × Int) (most : Int) : Nat → Int → Int → Bool × Int
  | 0, _, s => (true, s)
  | k + 1, x, s => if !(f x (most - s)).1 || decide (most < s + (f x (most - s)).2) then (false, s + (f x (most - s)).2) else loopF f most k (x + 1) (s + (f x (most - s)).2)
def ploopF (g : Int → Int → Bool × Int × Bool) : Nat → Int → Int → Bool × Int × Bool
  | 0, _, u => (true, u, false)
  | k + 1, x, u => if (g x u).1 then ploopF g k (x + 1) (g x u).2.1 else g x u
def hitL (r : List Fact) (list : List (List Fact)) : Bool := list.any (ContainsF r)
def someL (r : List Fact) (list : List (List Fact)) : Bool := list.any (fun p => !clashF r p)
def decF (vars : List Int) (list : List (List Fact)) : Nat → List Fact → Int → Bool × Int
  | 0, _, _ => (false, 1)
  | d + 1, r, most =>
    if most < 1 then (false, 1) else if hitL r list then (true, 1) else if !someL r list then (false, 1)
    else loopF (fun x m => decF vars list d (withF r (leastL r vars.length list, x)) m) most (vars.getD (leastL r vars.length list).toNat 0).toNat 0 1
def phitL (p : List Fact) (list : List (List Fact)) : Bool := list.any (containsF p)
def restL (p : List Fact) (list : List (List Fact)) : List (List Fact) := list.filter (fun x => !clashF x p)
def pdecF (vars : List Int) (steps : Int) : Nat → List Fact → List (List Fact) → Int → Bool × Int × Bool
  | 0, _, _, used => (false, used, false)
  | d + 1, p, list, used =>
    if steps ≤ used then (false, used, true) else if phitL p list then (true, used + 1, false)
    else if leastA p vars.length (restL p list) = vars.length then (false, used + 1, false)
    else ploopF (fun x u => pdecF vars steps d (pwithF p (leastA p vars.length (restL p list), x)) (restL p list) u) (vars.getD (leastA p vars.length (restL p list)).toNat 0).toNat 0 (used + 1)

/-- the two answers agree, with 'used' steps gone and 'most' steps left -/
def Agree (most used : Int) (y : Bool × Int) (z : Bool × Int × Bool) : Prop :=
  (y.2 ≤ most → z = (y.1, used + y.2, false)) ∧ (most < y.2 → z.1 = false ∧ z.2.2 = true)
theorem loop_agree (f : Int → Int → Bool × Int) (g : Int → Int → Bool × Int × Bool) (most used : Int) : ∀ (k : Nat) (x s : Int), s ≤ most → (∀ y s, x ≤ y → y < x + k → s ≤ most → Agree (most - s) (used + s) (f y (most - s)) (g y (used + s))) →
    Agree most used (loopF f most k x s) (ploopF g k x (used + s))
  | 0, x, s, hs, _ => by
    constructor
    · intro _; rfl
    · intro h; simp only [loopF] at h; omega
  | k + 1, x, s, hs, h => by
    obtain ⟨h1, h2⟩ := h x s (by omega) (by omega) hs
    rw [loopF, ploopF]
    generalize f x (most - s) = y at *
    obtain ⟨ok, n⟩ := y
    by_cases hn : n ≤ most - s
    · have e := h1 hn
      rw [e]
      simp only
      cases ok
      · simp only [Bool.not_false, Bool.true_or, if_true, Bool.false_eq_true, if_false]
        refine ⟨fun _ => ?_, fun hlt => ?_⟩
        · rw [Int.add_assoc]
        · simp only at hlt; omega
      · have hd : decide (most < s + n) = false := by simp; omega
        simp only [Bool.not_true, Bool.false_or, hd, Bool.false_eq_true, if_false, if_true]
        rw [Int.add_assoc]
        exact loop_agree f g most used k (x + 1) (s + n) (by omega) (fun y s' hy1 hy2 hs' => h y s' (by omega) (by omega) hs')
    · obtain ⟨e1, e2⟩ := h2 (by simp only; omega)
      have hd : decide (most < s + n) = true := by simp; omega
      simp only [hd, Bool.or_true, if_true, e1, Bool.false_eq_true, if_false]
      refine ⟨fun hle => ?_, fun _ => ⟨e1, e2⟩⟩
      simp only at hle
      omega

theorem leastP_or (r : List Fact) (p : List Fact) : ∀ m : Int, leastP r m p = m ∨ ∃ f ∈ p, valueF r f.1 < 0 ∧ leastP r m p = f.1 := by
  induction p with
  | nil => intro m; exact .inl rfl
  | cons x t ih =>
    intro m
    rw [leastP]
    rcases ih (if valueF r x.1 < 0 then min m x.1 else m) with h | ⟨f, hf, h1, h2⟩
    · rw [h]
      split
      · rename_i hx
        by_cases hm : m ≤ x.1
        · exact .inl (by omega)
        · exact .inr ⟨x, by simp, hx, by omega⟩
      · exact .inl rfl
    · exact .inr ⟨f, by simp [hf], h1, h2⟩
theorem leastP_le (r : List Fact) (p : List Fact) : ∀ m : Int, leastP r m p ≤ m ∧ ∀ f ∈ p, valueF r f.1 < 0 → leastP r m p ≤ f.1 := by
  induction p with
  | nil => intro m; exact ⟨Int.le_refl _, fun f hf => by cases hf⟩
  | cons x t ih =>
    intro m
    rw [leastP]
    obtain ⟨h1, h2⟩ := ih (if valueF r x.1 < 0 then min m x.1 else m)
    have hmm : (if valueF r x.1 < 0 then min m x.1 else m) ≤ m := by split <;> omega
    refine ⟨by omega, fun f hf hv => ?_⟩
    rcases List.mem_cons.1 hf with rfl | hf
    · rw [if_pos hv] at h1 ⊢
      omega
    · exact h2 f hf hv
theorem leastA_or (r : List Fact) (L : List (List Fact)) : ∀ m : Int, leastA r m L = m ∨ ∃ p ∈ L, ∃ f ∈ p, valueF r f.1 < 0 ∧ leastA r m L = f.1 := by
  induction L with
  | nil => intro m; exact .inl rfl
  | cons p t ih =>
    intro m
    rw [leastA]
    rcases ih (leastP r m p) with h | ⟨q, hq, f, hf, h1, h2⟩
    · rw [h]
      rcases leastP_or r p m with h | ⟨f, hf, h1, h2⟩
      · exact .inl h
      · exact .inr ⟨p, by simp, f, hf, h1, h2⟩
    · exact .inr ⟨q, by simp [hq], f, hf, h1, h2⟩
theorem leastA_le (r : List Fact) (L : List (List Fact)) : ∀ m : Int, leastA r m L ≤ m ∧ ∀ p ∈ L, ∀ f ∈ p, valueF r f.1 < 0 → leastA r m L ≤ f.1 := by
  induction L with
  | nil => intro m; exact ⟨Int.le_refl _, fun p hp => by cases hp⟩
  | cons p t ih =>
    intro m
    rw [leastA]
    obtain ⟨h1, h2⟩ := ih (leastP r m p)
    obtain ⟨h3, h4⟩ := leastP_le r p m
    refine ⟨by omega, fun q hq f hf hv => ?_⟩
    rcases List.mem_cons.1 hq with rfl | hq
    · have := h4 f hf hv; omega
    · exact h2 q hq f hf hv
theorem leastL_eq (r : List Fact) (L : List (List Fact)) : ∀ m : Int, leastL r m L = leastA r m (L.filter (fun p => !clashF r p)) := by
  induction L with
  | nil => intro m; rfl
  | cons p t ih =>
    intro m
    rw [leastL, List.filter_cons, ih]
    cases clashF r p
    · simp [leastA]
    · simp

theorem asc_room (n : Int) (l : List Fact) : ∀ lo : Int, lo ≤ n → Asc l → (∀ x ∈ l, lo ≤ x.1 ∧ x.1 < n) → (l.length : Int) ≤ n - lo := by
  induction l with
  | nil => intro lo h _ _; simp; omega
  | cons x t ih =>
    intro lo hlo h hx
    obtain ⟨h1, h2⟩ := List.pairwise_cons.1 h
    have hx0 := hx x (by simp)
    have := ih (x.1 + 1) (by omega) h2 (fun z hz => ⟨by have := h1 z hz; omega, (hx z (by simp [hz])).2⟩)
    simp
    omega
theorem prop_len {vars : List Int} {p : List Fact} (hp : propF vars p = true) : p.length ≤ vars.length := by
  obtain ⟨h1, h2⟩ := (propF_iff vars p).1 hp
  have := asc_room vars.length p 0 (by omega) h1 (fun x hx => ⟨(h2 x hx).1, (h2 x hx).2.1⟩)
  omega
theorem conflict_comm {a b : List Fact} (h : Conflict (a ++ b)) : Conflict (b ++ a) := by
  obtain ⟨x, hx, y, hy, e, hne⟩ := h
  exact ⟨x, by simp at hx ⊢; exact hx.symm, y, by simp at hy ⊢; exact hy.symm, e, hne⟩
theorem clash_conf {a b : List Fact} (ha : Asc a) (hb : Asc b) (hnb : Nonneg b) : clashF a b = true ↔ Conflict (a ++ b) := by
  constructor
  · intro h
    obtain ⟨x, hx, h1⟩ := List.any_eq_true.1 h
    simp at h1
    have hm := valueF_mem (l := b) (v := x.1) (by omega)
    exact ⟨x, by simp [hx], _, List.mem_append.2 (.inr hm), rfl, fun e => h1.2 e.symm⟩
  · rintro ⟨x, hx, y, hy, e, hne⟩
    have key : ∀ x y : Fact, x ∈ a → y ∈ b → x.1 = y.1 → x.2 ≠ y.2 → clashF a b = true := by
      intro x y hx hy e hne
      refine List.any_eq_true.2 ⟨x, hx, ?_⟩
      rw [e, valueF_of_mem hb hy]
      have := (hnb y hy).2
      simp
      exact ⟨this, fun e' => hne e'.symm⟩
    rcases List.mem_append.1 hx with hx | hx <;> rcases List.mem_append.1 hy with hy | hy
    · exact absurd (congrArg Prod.snd (asc_inj ha hx hy e)) hne
    · exact key x y hx hy e hne
    · exact key y x hy hx e.symm (fun e' => hne e'.symm)
    · exact absurd (congrArg Prod.snd (asc_inj hb hx hy e)) hne
theorem clash_comm {vars : List Int} {a b : List Fact} (ha : propF vars a = true) (hb : propF vars b = true) : clashF a b = clashF b a := by
  have h1 := clash_conf ((propF_iff vars a).1 ha).1 ((propF_iff vars b).1 hb).1 (propF_nonneg hb)
  have h2 := clash_conf ((propF_iff vars b).1 hb).1 ((propF_iff vars a).1 ha).1 (propF_nonneg ha)
  rw [Bool.eq_iff_iff, h1, h2]
  exact ⟨conflict_comm, conflict_comm⟩
theorem clash_sub {vars : List Int} {q p x : List Fact} (hp : propF vars p = true) (hq : ∀ z ∈ q, z ∈ p) (h : clashF x q = true) : clashF x p = true := by
  obtain ⟨f, hf, h1⟩ := List.any_eq_true.1 h
  simp at h1
  have hm := valueF_mem (l := q) (v := f.1) (by omega)
  have e := valueF_of_mem ((propF_iff vars p).1 hp).1 (hq _ hm)
  simp only at e
  refine List.any_eq_true.2 ⟨f, hf, ?_⟩
  rw [e]
  simpa using h1
theorem contains_clash {p x : List Fact} (h : containsF p x = true) : clashF x p = false := by
  rw [clashF, List.any_eq_false]
  intro f hf
  have := List.all_eq_true.1 h f hf
  have e : valueF p f.1 = f.2 := by simpa using this
  rw [e]
  simp
theorem restL_restL {vars : List Int} {q p : List Fact} (L : List (List Fact)) (hp : propF vars p = true) (hq : ∀ z ∈ q, z ∈ p) : restL p (restL q L) = restL p L := by
  unfold restL
  rw [List.filter_filter]
  refine List.filter_congr (fun x _ => ?_)
  cases h : clashF x q
  · simp
  · rw [clash_sub hp hq h]; rfl
theorem phit_eq {vars : List Int} {q p : List Fact} {L : List (List Fact)} (hL : ∀ x ∈ L, propF vars x = true) (hp : propF vars p = true) (hq : ∀ z ∈ q, z ∈ p) : phitL p (restL q L) = hitL p L := by
  unfold phitL hitL restL
  rw [List.any_filter, Bool.eq_iff_iff, List.any_eq_true, List.any_eq_true]
  constructor
  · rintro ⟨x, hx, h⟩
    simp only [Bool.and_eq_true] at h
    exact ⟨x, hx, by rw [ContainsF, propF_isF hp, propF_isF (hL x hx), h.2]; rfl⟩
  · rintro ⟨x, hx, h⟩
    simp only [ContainsF, Bool.and_eq_true] at h
    refine ⟨x, hx, ?_⟩
    rw [h.2, Bool.and_true]
    cases hc : clashF x q
    · rfl
    · have := clash_sub hp hq hc
      rw [contains_clash h.2] at this
      cases this
theorem least_rest {vars : List Int} {p : List Fact} {L : List (List Fact)} (hL : ∀ x ∈ L, propF vars x = true) (hp : propF vars p = true) : L.filter (fun x => !clashF p x) = restL p L :=
  List.filter_congr (fun x hx => by rw [clash_comm hp (hL x hx)])
theorem least_free {vars : List Int} {p : List Fact} {L : List (List Fact)} (hL : ∀ x ∈ L, propF vars x = true) (hp : propF vars p = true) (hh : hitL p L = false) (hs : someL p L = true) :
    0 ≤ leastA p vars.length (restL p L) ∧ leastA p vars.length (restL p L) < vars.length ∧ valueF p (leastA p vars.length (restL p L)) < 0 := by
  obtain ⟨x, hx, h1⟩ := List.any_eq_true.1 hs
  have hxr : x ∈ restL p L := by
    rw [← least_rest hL hp]
    exact List.mem_filter.2 ⟨hx, h1⟩
  have hxc : clashF x p = false := by simpa using (List.mem_filter.1 hxr).2
  have hno := List.any_eq_false.1 hh x hx
  have hcf : containsF p x = false := by
    cases hc : containsF p x
    · rfl
    · exact absurd (by rw [ContainsF, propF_isF hp, propF_isF (hL x hx), hc]; rfl) hno
  obtain ⟨f, hf, h2⟩ : ∃ f ∈ x, valueF p f.1 ≠ f.2 := by
    rw [containsF, List.all_eq_false] at hcf
    obtain ⟨f, hf, h2⟩ := hcf
    exact ⟨f, hf, by simpa using h2⟩
  have h3 : valueF p f.1 < 0 := by
    have := List.any_eq_false.1 hxc f hf
    simp at this
    rcases Int.lt_or_le (valueF p f.1) 0 with h | h
    · exact h
    · exact absurd (this h) h2
  have h4 := (leastA_le p (restL p L) vars.length).2 x hxr f hf h3
  have h5 := (((propF_iff vars x).1 (hL x hx)).2 f hf).2.1
  rcases leastA_or p (restL p L) vars.length with h | ⟨y, hy, g, hg, h6, h7⟩
  · omega
  · rw [h7]
    have hyL := (List.mem_filter.1 hy).1
    have := ((propF_iff vars y).1 (hL y hyL)).2 g hg
    exact ⟨this.1, this.2.1, h6⟩
theorem some_false {vars : List Int} {p : List Fact} {L : List (List Fact)} (hL : ∀ x ∈ L, propF vars x = true) (hp : propF vars p = true) (hs : someL p L = false) : restL p L = [] := by
  rw [← least_rest hL hp]
  refine List.filter_eq_nil_iff.2 (fun x hx => ?_)
  exact List.any_eq_false.1 hs x hx

theorem dec_agree {vars : List Int} {L : List (List Fact)} (hL : ∀ x ∈ L, propF vars x = true) (steps : Int) : ∀ (d : Nat) (p q : List Fact) (used most : Int), most = steps - used → propF vars p = true → (∀ z ∈ q, z ∈ p) → vars.length < d + p.length →
    Agree most used (decF vars L d p most) (pdecF vars steps d p (restL q L) used)
  | 0, p, q, used, most, hm, hp, hq, hd => by have := prop_len hp; omega
  | d + 1, p, q, used, most, hm, hp, hq, hd => by
    rw [decF, pdecF]
    by_cases h1 : most < 1
    · rw [if_pos h1, if_pos (show steps ≤ used by omega)]
      exact ⟨fun h => by simp only at h; omega, fun _ => ⟨rfl, rfl⟩⟩
    · rw [if_neg h1, if_neg (show ¬ steps ≤ used by omega), phit_eq hL hp hq, restL_restL L hp hq]
      cases hh : hitL p L
      · simp only [Bool.false_eq_true, if_false]
        cases hs : someL p L
        · rw [some_false hL hp hs]
          simp only [Bool.not_false, if_true, leastA]
          exact ⟨fun _ => rfl, fun h => by simp only at h; omega⟩
        · obtain ⟨v0, v1, hf⟩ := least_free hL hp hh hs
          rw [leastL_eq, least_rest hL hp]
          simp only [Bool.not_true, Bool.false_eq_true, if_false]
          rw [if_neg (show ¬ leastA p vars.length (restL p L) = vars.length by omega)]
          generalize leastA p vars.length (restL p L) = v at *
          refine loop_agree _ _ most used _ 0 1 (by omega) (fun y s hy0 hy1 hs' => ?_)
          have hy2 : y < vars.getD v.toNat 0 := by omega
          rw [← pwithF_eq p (v, y) ((propF_iff vars p).1 hp).1 (pw_none hp hf)]
          exact dec_agree hL steps d _ p _ _ (by omega) (pw_prop hp v0 v1 hf hy0 hy2) (fun z hz => (pwithF_mem p (v, y) z).2 (.inl hz)) (by rw [pwithF_len]; omega)
      · simp only [if_true]
        exact ⟨fun _ => rfl, fun h => by simp only at h; omega⟩

theorem loopF_le (f : Int → Int → Bool × Int) (most M : Int) : ∀ (k : Nat) (x s : Int), (∀ y m, x ≤ y → y < x + k → 0 ≤ (f y m).2 ∧ (f y m).2 ≤ M) → s ≤ (loopF f most k x s).2 ∧ (loopF f most k x s).2 ≤ s + k * M
  | 0, x, s, _ => by simp [loopF]
  | k + 1, x, s, h => by
    obtain ⟨h1, h2⟩ := h x (most - s) (by omega) (by omega)
    rw [loopF]
    have ih := loopF_le f most M k (x + 1) (s + (f x (most - s)).2) (fun y m hy1 hy2 => h y m (by omega) (by omega))
    have hM : 0 ≤ M := by omega
    have e : ((k + 1 : Nat) : Int) * M = k * M + M := by push_cast; rw [Int.add_mul, Int.one_mul]
    have hk : 0 ≤ (k : Int) * M := Int.mul_nonneg (by omega) hM
    rw [e]
    split
    · simp only; omega
    · omega
def ones (vars : List Int) : List Int := vars.map (fun k => max k 1)
theorem ones_pos (vars : List Int) : ∀ k ∈ ones vars, 1 ≤ k := by
  intro k hk
  obtain ⟨x, _, rfl⟩ := List.mem_map.1 hk
  omega
theorem ones_at {vars : List Int} {v : Int} (h0 : 0 ≤ v) (h1 : v < vars.length) : (ones vars).getD v.toNat 0 = max (vars.getD v.toNat 0) 1 := by
  unfold ones
  rw [List.getD_eq_getElem?_getD, List.getD_eq_getElem?_getD, List.getElem?_map, List.getElem?_eq_getElem (by omega)]
  rfl
theorem dec_bound {vars : List Int} {L : List (List Fact)} (hL : ∀ x ∈ L, propF vars x = true) : ∀ (d : Nat) (p : List Fact) (most : Int), propF vars p = true → vars.length < d + p.length →
    1 ≤ (decF vars L d p most).2 ∧ (decF vars L d p most).2 ≤ d * prodL p 0 (ones vars)
  | 0, p, most, hp, hd => by have := prop_len hp; omega
  | d + 1, p, most, hp, hd => by
    have hP := prodL_pos p (ones vars) 0 (ones_pos vars)
    have h1d : 1 ≤ ((d + 1 : Nat) : Int) * prodL p 0 (ones vars) := by
      have := Int.mul_le_mul (show (1 : Int) ≤ ((d + 1 : Nat) : Int) by omega) hP (by omega) (by omega)
      omega
    rw [decF]
    split
    · exact ⟨by simp, h1d⟩
    · split
      · exact ⟨by simp, h1d⟩
      · rename_i hh
        split
        · exact ⟨by simp, h1d⟩
        · rename_i hs
          obtain ⟨v0, v1, hf⟩ := least_free hL hp (by simpa using hh) (by simpa using hs)
          rw [leastL_eq, least_rest hL hp]
          generalize leastA p vars.length (restL p L) = v at *
          have hpr := (pw_prodL hp v0 hf (x := 0) (by omega) (ones vars) 0).2 (by omega) (by simp [ones]; omega)
          rw [Nat.sub_zero, ones_at v0 v1] at hpr
          have hQ := prodL_pos (pwithF p (v, 0)) (ones vars) 0 (ones_pos vars)
          have key : ∀ y m : Int, 0 ≤ y → y < 0 + ((vars.getD v.toNat 0).toNat : Int) → 0 ≤ (decF vars L d (withF p (v, y)) m).2 ∧ (decF vars L d (withF p (v, y)) m).2 ≤ d * prodL (pwithF p (v, 0)) 0 (ones vars) := by
            intro y m hy0 hy1
            rw [← pwithF_eq p (v, y) ((propF_iff vars p).1 hp).1 (pw_none hp hf)]
            obtain ⟨i1, i2⟩ := dec_bound hL d (pwithF p (v, y)) m (pw_prop hp v0 v1 hf hy0 (by omega)) (by rw [pwithF_len]; omega)
            have h2 := (pw_prodL hp v0 hf (x := y) hy0 (ones vars) 0).2 (by omega) (by simp [ones]; omega)
            rw [Nat.sub_zero, ones_at v0 v1, hpr] at h2
            rw [Int.eq_of_mul_eq_mul_left (show max (vars.getD v.toNat 0) 1 ≠ 0 by omega) h2]
            exact ⟨by omega, i2⟩
          obtain ⟨l1, l2⟩ := loopF_le (fun x m => decF vars L d (withF p (v, x)) m) most _ (vars.getD v.toNat 0).toNat 0 1 key
          refine ⟨l1, Int.le_trans l2 ?_⟩
          rw [hpr]
          generalize prodL (pwithF p (v, 0)) 0 (ones vars) = Q at *
          generalize vars.getD v.toNat 0 = z at *
          rcases Int.lt_or_le z 1 with hz | hz
          · rw [show z.toNat = 0 by omega]
            rw [hpr] at h1d
            simpa using h1d
          · rw [show max z 1 = z by omega, show ((z.toNat : Nat) : Int) = z by omega]
            have hzQ := Int.mul_le_mul hz hQ (by omega) (by omega)
            have e1 : ((d + 1 : Nat) : Int) * (z * Q) = d * (z * Q) + z * Q := by push_cast; rw [Int.add_mul, Int.one_mul]
            have e2 : z * ((d : Int) * Q) = d * (z * Q) := by rw [Int.mul_left_comm]
            rw [e1, e2]
            omega
end Go.Proofs.Ytpogmkplmcedlaa
