/- stratagemlaw13.PlanfileSorts returns true for every input. No condition beyond the card's own. -/
import Derived.Test.YtljekaadbabhkaaDoorB3
import Derived.Test.YtljekaadbabhkaaDoorB1
import Derived.Deep.Slices
import Derived.Deep.Fields
import Derived.ChangeSame
import Derived.SizedLaws
import Derived.Lib.SmallJoins
import Derived.Below
import Derived.OpenShut
import Derived.Carry
/- Plain: the stable sort of slices, over steps: blocks and merges. -/
namespace Go.Proofs.YtljekaadbabhkaaDoor.Am
open Go.RowKit

section
variable {P : GStep → Prop} {c : GStep → GStep → Int} {cmp : GStep → GStep → Option Int} {N : Nat}
/-- blocks of a size are in order, from a place on -/
def BlkS (lt : GStep → GStep → Bool) (f : Nat → GStep) (N bs lo : Nat) : Prop := ∀ u x, x = u * bs → lo ≤ x → x < N → SortedOn lt f x (min (x + bs) N)
theorem mult_gap {u v c : Nat} (h : u * c < v * c) : u * c + c ≤ v * c := by
  have h1 : u < v := Nat.lt_of_mul_lt_mul_right h
  have h2 := Nat.mul_le_mul_right c (show u + 1 ≤ v from h1)
  rwa [Nat.add_mul, Nat.one_mul] at h2
theorem blk_merge {lt : GStep → GStep → Bool} {f f' : Nat → GStep} {N bs v : Nat} (hb0 : 0 < bs) (h : BlkS lt f N bs (v * (2 * bs))) (hw : Within (v * (2 * bs)) (v * (2 * bs) + 2 * bs) f f') : BlkS lt f' N bs ((v + 1) * (2 * bs)) := by
  intro u x hx hlo hxN
  have e : (v + 1) * (2 * bs) = v * (2 * bs) + 2 * bs := by rw [Nat.add_mul, Nat.one_mul]
  exact (h u x hx (by omega) hxN).off hw (.inr (by omega))
/-- finished blocks of twice the size, below a place -/
def Fin2 (lt : GStep → GStep → Bool) (f : Nat → GStep) (c hi : Nat) : Prop := ∀ u x, x = u * c → x + c ≤ hi → SortedOn lt f x (x + c)
theorem fin_step {lt : GStep → GStep → Bool} {f f' : Nat → GStep} {c v : Nat} (h : Fin2 lt f c (v * c)) (hw : Within (v * c) (v * c + c) f f') (hs : SortedOn lt f' (v * c) (v * c + c)) : Fin2 lt f' c ((v + 1) * c) := by
  intro u x hx hhi
  have e : (v + 1) * c = v * c + c := by rw [Nat.add_mul, Nat.one_mul]
  by_cases hlt : x + c ≤ v * c
  · exact (h u x hx hlt).off hw (.inl hlt)
  · by_cases hc : c = 0
    · subst hc
      exact SortedOn.small (by omega)
    · subst hx
      have huv : ¬ u * c < v * c := fun h1 => hlt (mult_gap h1)
      have hvu : ¬ v * c < u * c := fun h1 => by have := mult_gap h1; omega
      have e2 : u * c = v * c := by omega
      rw [e2]
      exact hs
theorem blk_done {lt : GStep → GStep → Bool} {f : Nat → GStep} {N c v : Nat} (h : Fin2 lt f c (v * c)) (hs : v * c < N → SortedOn lt f (v * c) N) (hN : N < v * c + c) : BlkS lt f N c 0 := by
  intro u x hx _ hxN
  by_cases hlt : x + c ≤ v * c
  · exact (h u x hx hlt).sub (Nat.le_refl _) (Nat.min_le_left _ _)
  · subst hx
    have huv : ¬ u * c < v * c := fun h1 => hlt (mult_gap h1)
    have hvu : ¬ v * c < u * c := fun h1 => by have := mult_gap h1; omega
    have e2 : u * c = v * c := by omega
    rw [e2] at hxN ⊢
    exact (hs hxN).sub (Nat.le_refl _) (Nat.min_le_right _ _)
theorem stabL1 (o : Ord (ltc c)) (hN : N ≤ 4000000000000) (ok : Ok P c cmp) (g : Nat) (hg : N < g) (f : Nat → GStep) (hP : All P N f) : ∀ (k t : Nat) (f' : Nat → GStep), 20 * t ≤ N → N < k + 20 * t → PermF N f f' → Within 0 N f f' → (∀ u, u < t → SortedOn (ltc c) f' (20 * u) (20 * u + 20)) →
    ∃ (q : Nat) (f2 : Nat → GStep), M_s_stableCmpFunc_Step_L1 (N : Int) cmp g k ((20 * t : Nat) : Int) ((20 * t + 20 : Nat) : Int) (lof N f') = some (((20 * q : Nat) : Int), lof N f2) ∧ 20 * q ≤ N ∧ N < 20 * q + 20 ∧ PermF N f f2 ∧ Within 0 N f f2 ∧ ∀ u, u < q → SortedOn (ltc c) f2 (20 * u) (20 * u + 20)
  | 0, t, f', h1, h2, _, _, _ => by omega
  | k + 1, t, f', h1, h2, hp, hw, hbl => by
    rw [M_s_stableCmpFunc_Step_L1, sel_dec]
    by_cases hlt : 20 * t + 20 ≤ N
    · obtain ⟨f1, i1, i2, i3, i4⟩ := ins_eq o hN ok (20 * t) (20 * t + 20) (by omega) hlt g (by omega) f' (hP.within hw (Nat.le_refl _))
      have e1 : IntKind.i64.wrap (((20 * t + 20 : Nat) : Int) + 20) = ((20 * (t + 1) + 20 : Nat) : Int) := by rw [w64 (by omega) (by omega)]; omega
      rw [if_pos (by omega), i1, ob1_some, lof_len, lof_len, grd_t rfl, e1, show 20 * t + 20 = 20 * (t + 1) by omega]
      refine stabL1 o hN ok g hg f hP k (t + 1) f1 (by omega) (by omega) (hp.trans i2) (hw.trans (i3.mono (Nat.zero_le _) (by omega))) (fun u hu => ?_)
      by_cases hut : u = t
      · subst hut; exact i4
      · exact (hbl u (by omega)).off i3 (.inl (by omega))
    · rw [if_neg (by omega)]
      exact ⟨t, f', rfl, h1, by omega, hp, hw, hbl⟩
theorem stabL2 (o : Ord (ltc c)) (hN : N ≤ 4000000000000) (ok : Ok P c cmp) (g : Nat) (hg : 2 * N + 4 ≤ g) (f : Nat → GStep) (hP : All P N f) (bs : Nat) (hbs : 0 < bs) (hbN : bs < N) : ∀ (k v A : Nat) (f3 : Nat → GStep), A = v * (2 * bs) → A ≤ N → N < k + A → PermF N f f3 → Within 0 N f f3 → Fin2 (ltc c) f3 (2 * bs) A → BlkS (ltc c) f3 N bs A →
    ∃ (v' A' : Nat) (f4 : Nat → GStep), M_s_stableCmpFunc_Step_L2 (N : Int) cmp g (bs : Int) k (A : Int) ((A + 2 * bs : Nat) : Int) (lof N f3) = some ((A' : Int), lof N f4) ∧ A' = v' * (2 * bs) ∧ A' ≤ N ∧ N < A' + 2 * bs ∧ PermF N f f4 ∧ Within 0 N f f4 ∧ Fin2 (ltc c) f4 (2 * bs) A' ∧ BlkS (ltc c) f4 N bs A'
  | 0, v, A, f3, _, h1, h2, _, _, _, _ => by omega
  | k + 1, v, A, f3, hA, h1, h2, hp, hw, hfi, hbl => by
    rw [M_s_stableCmpFunc_Step_L2, sel_dec]
    have eA1 : A = (2 * v) * bs := by rw [hA, Nat.mul_comm 2 v, Nat.mul_assoc]
    have eA2 : A + bs = (2 * v + 1) * bs := by rw [Nat.add_mul, Nat.one_mul, ← eA1]
    by_cases hin : A + 2 * bs ≤ N
    · have s1 : SortedOn (ltc c) f3 A (A + bs) := by have := hbl (2 * v) A eA1 (Nat.le_refl _) (by omega); rwa [show min (A + bs) N = A + bs by omega] at this
      have s2 : SortedOn (ltc c) f3 (A + bs) (A + 2 * bs) := by have := hbl (2 * v + 1) (A + bs) eA2 (by omega) (by omega); rwa [show min (A + bs + bs) N = A + 2 * bs by omega] at this
      obtain ⟨f4, z1, z2, z3, z4⟩ := sym_eq o hN ok N g A (A + bs) (A + 2 * bs) f3 (by omega) (by omega) (by omega) (by omega) hin (hP.within hw (Nat.le_refl _)) s1 s2
      have e2 : IntKind.i64.wrap (((A + 2 * bs : Nat) : Int) + IntKind.i64.wrap (2 * (bs : Int))) = ((A + 2 * bs + 2 * bs : Nat) : Int) := by rw [w64 (z := 2 * (bs : Int)) (by omega) (by omega), w64 (by omega) (by omega)]; omega
      rw [if_pos (by omega), wadd (by omega) (by omega), z1, ob1_some, lof_len, lof_len, grd_t rfl, e2]
      have e1 : (v + 1) * (2 * bs) = A + 2 * bs := by rw [Nat.add_mul, Nat.one_mul, ← hA]
      have hw' : Within (v * (2 * bs)) (v * (2 * bs) + 2 * bs) f3 f4 := by rw [← hA]; exact z3
      refine stabL2 o hN ok g hg f hP bs hbs hbN k (v + 1) (A + 2 * bs) f4 e1.symm hin (by omega) (hp.trans z2) (hw.trans (z3.mono (Nat.zero_le _) hin)) ?_ ?_
      · rw [← e1]; exact fin_step (by rw [← hA]; exact hfi) hw' (by rw [← hA]; exact z4)
      · rw [← e1]
        exact blk_merge hbs (by rw [← hA]; exact hbl) hw'
    · rw [if_neg (by omega)]
      exact ⟨v, A, f3, rfl, hA, h1, by omega, hp, hw, hfi, hbl⟩
theorem stabL3 (o : Ord (ltc c)) (hN : N ≤ 4000000000000) (ok : Ok P c cmp) (g : Nat) (hg : 2 * N + 4 ≤ g) (f : Nat → GStep) (hP : All P N f) : ∀ (k bs : Nat) (f2 : Nat → GStep), 20 ≤ bs → bs ≤ 8000000000000 → N < k + bs → 0 < k → PermF N f f2 → Within 0 N f f2 → BlkS (ltc c) f2 N bs 0 →
    ∃ f', M_s_stableCmpFunc_Step_L3 (N : Int) cmp g k (bs : Int) (lof N f2) = some (lof N f') ∧ PermF N f f' ∧ Within 0 N f f' ∧ SortedOn (ltc c) f' 0 N
  | 0, bs, f2, _, _, _, h, _, _, _ => by omega
  | k + 1, bs, f2, h0, hb, h1, _, hp, hw, hbl => by
    rw [M_s_stableCmpFunc_Step_L3, sel_dec]
    by_cases hlt : bs < N
    · have e0 : IntKind.i64.wrap (2 * (bs : Int)) = ((0 + 2 * bs : Nat) : Int) := by rw [w64 (by omega) (by omega)]; omega
      have e1 : IntKind.i64.wrap ((bs : Int) * 2) = ((2 * bs : Nat) : Int) := by rw [w64 (by omega) (by omega)]; omega
      obtain ⟨v, A, f4, z1, z2, z3, z4, z5, z6, z7, z8⟩ := stabL2 o hN ok g hg f hP bs (by omega) hlt g 0 0 f2 (by omega) (Nat.zero_le _) (by omega) hp hw (fun u x hx hh => by omega) hbl
      rw [if_pos (by omega), e0, show (0 : Int) = ((0 : Nat) : Int) from rfl, z1, ob1_some]
      simp only
      rw [wadd (by omega) (by omega), e1, sel_dec]
      have eA1 : A = (2 * v) * bs := by rw [z2, Nat.mul_comm 2 v, Nat.mul_assoc]
      have eA2 : A + bs = (2 * v + 1) * bs := by rw [Nat.add_mul, Nat.one_mul, ← eA1]
      by_cases hm : A + bs < N
      · have s1 : SortedOn (ltc c) f4 A (A + bs) := by have := z8 (2 * v) A eA1 (Nat.le_refl _) (by omega); rwa [show min (A + bs) N = A + bs by omega] at this
        have s2 : SortedOn (ltc c) f4 (A + bs) N := by have := z8 (2 * v + 1) (A + bs) eA2 (by omega) (by omega); rwa [show min (A + bs + bs) N = N by omega] at this
        obtain ⟨f5, y1, y2, y3, y4⟩ := sym_eq o hN ok N g A (A + bs) N f4 (by omega) (by omega) (by omega) hm (Nat.le_refl _) (hP.within z6 (Nat.le_refl _)) s1 s2
        rw [if_pos (by omega), y1, ob1_some, lof_len, lof_len, grd_t rfl]
        refine stabL3 o hN ok g hg f hP k (2 * bs) f5 (by omega) (by omega) (by omega) (by omega) (z5.trans y2) (z6.trans (y3.mono (Nat.zero_le _) (Nat.le_refl _))) ?_
        have hfi' : Fin2 (ltc c) f5 (2 * bs) (v * (2 * bs)) := fun u x hx hh => (z7 u x hx (by rw [z2]; exact hh)).off y3 (.inl (by rw [z2]; exact hh))
        exact blk_done hfi' (fun _ => by rw [← z2]; exact y4) (by rw [← z2]; exact z4)
      · have s1 : A < N → SortedOn (ltc c) f4 A N := fun hAl => by have := z8 (2 * v) A eA1 (Nat.le_refl _) hAl; rwa [show min (A + bs) N = N by omega] at this
        rw [if_neg (by omega)]
        refine stabL3 o hN ok g hg f hP k (2 * bs) f4 (by omega) (by omega) (by omega) (by omega) z5 z6 ?_
        exact blk_done (v := v) (by rw [← z2]; exact z7) (fun h => by rw [← z2] at h ⊢; exact s1 h) (by rw [← z2]; exact z4)
    · rw [if_neg (by omega)]
      refine ⟨f2, rfl, hp, hw, ?_⟩
      by_cases hN0 : N = 0
      · exact SortedOn.small (by omega)
      · have := hbl 0 0 (by omega) (by omega) (by omega)
        rwa [show min (0 + bs) N = N by omega] at this
theorem stable_eq (o : Ord (ltc c)) (hN : N ≤ 4000000000000) (ok : Ok P c cmp) (g : Nat) (hg : 2 * N + 4 ≤ g) (f : Nat → GStep) (hP : All P N f) :
    ∃ f', M_s_SortStableFunc_Step g (lof N f) cmp = some (lof N f') ∧ PermF N f f' ∧ SortedOn (ltc c) f' 0 N := by
  obtain ⟨q, f2, q1, q2, q3, q4, q5, q6⟩ := stabL1 o hN ok g (by omega) f hP g 0 f (by omega) (by omega) (PermF.refl _ _) (Within.refl _ _ _) (fun u hu => by omega)
  obtain ⟨f3, i1, i2, i3, i4⟩ := ins_eq o hN ok (20 * q) N q2 (Nat.le_refl _) g (by omega) f2 (hP.within q5 (Nat.le_refl _))
  have hblk : BlkS (ltc c) f3 N 20 0 := by
    refine blk_done (v := q) (fun u x hx hhi => ?_) (fun _ => ?_) (by omega)
    · exact ((q6 u (by omega)).off i3 (.inl (by omega))) |> fun h => by rw [hx, show u * 20 = 20 * u by omega]; exact h
    · rw [show q * 20 = 20 * q by omega]; exact i4
  obtain ⟨f4, z1, z2, z3, z4⟩ := stabL3 o hN ok g hg f hP g 20 f3 (by omega) (by omega) (by omega) (by omega) (q4.trans i2) (q5.trans (i3.mono (Nat.zero_le _) (Nat.le_refl _))) hblk
  refine ⟨f4, ?_, z2, z4⟩
  rw [M_s_SortStableFunc_Step, M_s_stableCmpFunc_Step, lof_len]
  have q1' : M_s_stableCmpFunc_Step_L1 (N : Int) cmp g g 0 20 (lof N f) = some (((20 * q : Nat) : Int), lof N f2) := q1
  have z1' : M_s_stableCmpFunc_Step_L3 (N : Int) cmp g g 20 (lof N f3) = some (lof N f4) := z1
  rw [q1', ob1_some]
  simp only
  rw [i1, ob1_some, lof_len, lof_len, grd_t rfl, z1', ob1_some, lof_len, grd_t rfl]
end
end Go.Proofs.YtljekaadbabhkaaDoor.Am
/- Plain: comparisons, and the order of steps. -/
namespace Go.Proofs.YtljekaadbabhkaaDoor.Am
open Go.RowKit

section
variable {X Y Z : Type}
/-- a comparison: a strict order, and 0 for equal arguments alone -/
structure IsCmp (c : Z → Z → Int) : Prop where
  eq : ∀ x y, c x y = 0 ↔ x = y
  anti : ∀ x y, c x y < 0 ↔ 0 < c y x
  trans : ∀ x y z, c x y < 0 → c y z < 0 → c x z < 0
theorem IsCmp.self {c : Z → Z → Int} (h : IsCmp c) (x : Z) : c x x = 0 := (h.eq x x).2 rfl
theorem IsCmp.le_trans {c : Z → Z → Int} (h : IsCmp c) {x y z : Z} (h1 : c x y ≤ 0) (h2 : c y z ≤ 0) : c x z ≤ 0 := by
  by_cases e1 : c x y = 0
  · rw [(h.eq x y).1 e1]; exact h2
  · by_cases e2 : c y z = 0
    · rw [← (h.eq y z).1 e2]; exact h1
    · have := h.trans x y z (by omega) (by omega)
      omega
theorem IsCmp.total {c : Z → Z → Int} (h : IsCmp c) (x y : Z) : c x y ≤ 0 ∨ c y x < 0 := by
  have := h.anti y x
  omega
theorem IsCmp.le_asym {c : Z → Z → Int} (h : IsCmp c) {x y : Z} (h1 : c x y ≤ 0) (h2 : c y x ≤ 0) : x = y := by
  have := h.anti x y
  exact (h.eq x y).1 (by omega)
def pairC (c : X → X → Int) (d : Y → Y → Int) (x y : X × Y) : Int := if c x.1 y.1 = 0 then d x.2 y.2 else c x.1 y.1
theorem IsCmp.pair {c : X → X → Int} {d : Y → Y → Int} (a : IsCmp c) (b : IsCmp d) : IsCmp (pairC c d) := by
  refine ⟨fun x y => ?_, fun x y => ?_, fun x y z => ?_⟩
  · unfold pairC
    rw [Prod.ext_iff]
    by_cases h : c x.1 y.1 = 0
    · rw [if_pos h, b.eq]
      exact ⟨fun e => ⟨(a.eq _ _).1 h, e⟩, fun e => e.2⟩
    · rw [if_neg h]
      exact ⟨fun e => absurd e h, fun e => absurd ((a.eq _ _).2 e.1) h⟩
  · unfold pairC
    by_cases h : c x.1 y.1 = 0
    · rw [if_pos h, if_pos ((a.eq _ _).2 ((a.eq _ _).1 h).symm)]
      exact b.anti _ _
    · rw [if_neg h, if_neg (fun e => h ((a.eq _ _).2 ((a.eq _ _).1 e).symm))]
      exact a.anti _ _
  · unfold pairC
    by_cases h : c x.1 y.1 = 0
    · rw [if_pos h, (a.eq _ _).1 h]
      by_cases h2 : c y.1 z.1 = 0
      · rw [if_pos h2, if_pos h2]; exact b.trans _ _ _
      · rw [if_neg h2, if_neg h2]; exact fun _ e => e
    · rw [if_neg h]
      by_cases h2 : c y.1 z.1 = 0
      · rw [if_pos h2, ← (a.eq _ _).1 h2, if_neg h]
        exact fun e _ => e
      · rw [if_neg h2]
        intro e1 e2
        have := a.trans _ _ _ e1 e2
        rw [if_neg (by omega)]
        exact this
theorem IsCmp.inj {c : Z → Z → Int} (a : IsCmp c) (f : X → Z) (hf : ∀ x y, f x = f y → x = y) : IsCmp (fun x y => c (f x) (f y)) :=
  ⟨fun x y => (a.eq _ _).trans ⟨hf x y, fun e => by rw [e]⟩, fun x y => a.anti _ _, fun x y z => a.trans _ _ _⟩
def lexC (c : Z → Z → Int) : List Z → List Z → Int
  | [], [] => 0
  | [], _ :: _ => -1
  | _ :: _, [] => 1
  | a :: r, b :: q => if c a b = 0 then lexC c r q else c a b
theorem lexC_eq {c : Z → Z → Int} (a : IsCmp c) : ∀ x y, lexC c x y = 0 ↔ x = y
  | [], [] => by simp [lexC]
  | [], _ :: _ => by simp [lexC]
  | _ :: _, [] => by simp [lexC]
  | x :: xs, y :: ys => by
    rw [lexC]
    by_cases h : c x y = 0
    · rw [if_pos h, lexC_eq a xs ys]
      simp [(a.eq x y).1 h]
    · rw [if_neg h]
      exact ⟨fun e => absurd e h, fun e => absurd ((a.eq _ _).2 (List.cons.inj e).1) h⟩
theorem lexC_anti {c : Z → Z → Int} (a : IsCmp c) : ∀ x y, lexC c x y < 0 ↔ 0 < lexC c y x
  | [], [] => by simp [lexC]
  | [], _ :: _ => by simp [lexC]
  | _ :: _, [] => by simp [lexC]
  | x :: xs, y :: ys => by
    rw [lexC, lexC]
    by_cases h : c x y = 0
    · rw [if_pos h, if_pos ((a.eq _ _).2 ((a.eq _ _).1 h).symm)]
      exact lexC_anti a xs ys
    · rw [if_neg h, if_neg (fun e => h ((a.eq _ _).2 ((a.eq _ _).1 e).symm))]
      exact a.anti _ _
theorem lexC_trans {c : Z → Z → Int} (a : IsCmp c) : ∀ x y z, lexC c x y < 0 → lexC c y z < 0 → lexC c x z < 0
  | [], [], z => by simp [lexC]
  | [], _ :: _, [] => by simp [lexC]
  | [], _ :: _, _ :: _ => by simp [lexC]
  | _ :: _, [], z => by simp [lexC]
  | _ :: _, _ :: _, [] => by simp [lexC]
  | x :: xs, y :: ys, z :: zs => by
    rw [lexC, lexC, lexC]
    by_cases h : c x y = 0
    · rw [if_pos h, (a.eq _ _).1 h]
      by_cases h2 : c y z = 0
      · rw [if_pos h2, if_pos h2]; exact lexC_trans a xs ys zs
      · rw [if_neg h2, if_neg h2]; exact fun _ e => e
    · rw [if_neg h]
      by_cases h2 : c y z = 0
      · rw [if_pos h2, ← (a.eq _ _).1 h2, if_neg h]
        exact fun e _ => e
      · rw [if_neg h2]
        intro e1 e2
        have := a.trans _ _ _ e1 e2
        rw [if_neg (by omega)]
        exact this
theorem IsCmp.lex {c : Z → Z → Int} (a : IsCmp c) : IsCmp (lexC c) := ⟨lexC_eq a, lexC_anti a, lexC_trans a⟩
theorem IsCmp.ord {c : GStep → GStep → Int} (a : IsCmp c) : Ord (ltc c) := by
  have key : ∀ x y, leB (ltc c) x y ↔ c x y ≤ 0 := fun x y => by
    unfold leB ltc
    rw [decide_eq_false_iff_not]
    have := a.anti y x
    have := a.anti x y
    omega
  refine ⟨fun x y z h1 h2 => ?_, fun x y h => ?_⟩
  · rw [key] at *
    exact a.le_trans h1 h2
  · rw [key]
    have : c x y < 0 := of_decide_eq_true h
    omega
end
def byteC (a b : UInt8) : Int := if a < b then -1 else if b < a then 1 else 0
def intC (a b : Int) : Int := if a = b then 0 else if a < b then -1 else 1
theorem byteC_cmp : IsCmp byteC := by
  have key : ∀ a b : UInt8, byteC a b = intC (a.toNat : Int) (b.toNat : Int) := fun a b => by
    unfold byteC intC
    simp only [UInt8.lt_iff_toNat_lt]
    repeat' split
    all_goals omega
  have hi : ∀ a b : UInt8, (a.toNat : Int) = (b.toNat : Int) → a = b := fun a b h => UInt8.toNat_inj.1 (by omega)
  refine ⟨fun x y => ?_, fun x y => ?_, fun x y z => ?_⟩
  · rw [key]
    unfold intC
    refine ⟨fun h => hi x y ?_, fun h => by subst h; simp⟩
    revert h
    repeat' split
    all_goals omega
  · rw [key, key]
    unfold intC
    repeat' split
    all_goals omega
  · rw [key, key, key]
    unfold intC
    repeat' split
    all_goals omega
theorem intC_cmp : IsCmp intC := by
  refine ⟨fun x y => ?_, fun x y => ?_, fun x y z => ?_⟩
  · unfold intC
    repeat' split
    all_goals omega
  · unfold intC
    repeat' split
    all_goals omega
  · unfold intC
    repeat' split
    all_goals omega
theorem cmpB_lex : ∀ x y, Lib.compareBytes x y = lexC byteC x y
  | [], [] => rfl
  | [], _ :: _ => rfl
  | _ :: _, [] => rfl
  | a :: x, b :: y => by
    rw [Lib.compareBytes, lexC, cmpB_lex x y, byteC]
    by_cases h1 : a < b
    · rw [if_pos h1, if_pos h1, if_neg (by decide)]
    · rw [if_neg h1, if_neg h1]
      by_cases h2 : b < a
      · rw [if_pos h2, if_pos h2, if_neg (by decide)]
      · rw [if_neg h2, if_neg h2, if_pos rfl]
/-- strings -/
def strC (s t : ByteArray) : Int := Lib.compareBytes (bl s) (bl t)
theorem strC_cmp : IsCmp strC := by
  have h := byteC_cmp.lex.inj bl (fun x y => bl_inj)
  have e : (fun x y => lexC byteC (bl x) (bl y)) = strC := by funext x y; exact (cmpB_lex _ _).symm
  rwa [e] at h
theorem less_cmpB : ∀ x y, Op.bytesLess x y = decide (Lib.compareBytes x y < 0)
  | [], [] => rfl
  | _ :: _, [] => rfl
  | [], _ :: _ => rfl
  | a :: x, b :: y => by
    rw [Op.bytesLess, less_cmpB x y, Lib.compareBytes]
    by_cases h1 : a < b
    · rw [if_pos h1]; simp [h1]
    · rw [if_neg h1]
      by_cases h2 : b < a
      · rw [if_pos h2]
        have : ¬ a = b := fun e => by subst e; exact h1 h2
        simp [h1, this]
      · rw [if_neg h2]
        have : a = b := UInt8.le_antisymm (UInt8.not_lt.1 h2) (UInt8.not_lt.1 h1)
        simp [this]
theorem less_str (s t : ByteArray) : Op.bytesLess s.toList t.toList = decide (strC s t < 0) := by rw [toList_bl, toList_bl, less_cmpB]; rfl
/-- steps -/
def stepC (x y : GStep) : Int := pairC intC (pairC strC (lexC strC)) (x.At, x.Name, x.Args) (y.At, y.Name, y.Args)
theorem stepC_cmp : IsCmp stepC := (intC_cmp.pair (strC_cmp.pair strC_cmp.lex)).inj (fun x : GStep => (x.At, x.Name, x.Args)) (fun x y h => by
  obtain ⟨x1, x2, x3⟩ := x
  obtain ⟨y1, y2, y3⟩ := y
  simp at h
  simp [h])

theorem stepC_def (x y : GStep) : stepC x y = if x.At = y.At then (if strC x.Name y.Name = 0 then lexC strC x.Args y.Args else strC x.Name y.Name) else if x.At < y.At then -1 else 1 := by
  unfold stepC pairC intC
  simp only
  by_cases e : x.At = y.At
  · rw [if_pos e, if_pos rfl, if_pos e]
  · rw [if_neg e, if_neg e, if_neg (by split <;> decide)]
/- the models -/
theorem cmpCompare_eq (x y : ByteArray) : M_cmp_Compare_string x y = some (strC x y) := by
  have nn : ∀ z : ByteArray, M_cmp_isNaN_string z = some false := fun z => by rw [M_cmp_isNaN_string, beq_self_eq_true]; rfl
  rw [M_cmp_Compare_string, nn, nn, ob1_some, ob1_some, sel_ff, sel_ff, less_str, sel_dec, beq_bl]
  have h1 := strC_cmp.eq x y
  by_cases h : strC x y < 0
  · rw [if_pos h]
    unfold strC at h ⊢
    have key : ∀ a b, Lib.compareBytes a b < 0 → Lib.compareBytes a b = -1 := by
      intro a
      induction a with
      | nil => intro b; cases b <;> simp [Lib.compareBytes]
      | cons p a ih =>
        intro b
        cases b with
        | nil => simp [Lib.compareBytes]
        | cons q b =>
          rw [Lib.compareBytes]
          repeat' split
          · intro _; rfl
          · intro h; omega
          · exact ih b
    rw [key _ _ h]
  · rw [if_neg h, decide_eq_false h, Bool.false_or, sel_not, sel_dec]
    by_cases e : x = y
    · rw [if_pos e, h1.2 e]
    · rw [if_neg e]
      unfold strC at h ⊢
      have key : ∀ a b, ¬ Lib.compareBytes a b < 0 → a ≠ b → Lib.compareBytes a b = 1 := by
        intro a
        induction a with
        | nil => intro b; cases b <;> simp [Lib.compareBytes]
        | cons p a ih =>
          intro b
          cases b with
          | nil => simp [Lib.compareBytes]
          | cons q b =>
            rw [Lib.compareBytes]
            by_cases hp : p < q
            · rw [if_pos hp]; intro h; omega
            · rw [if_neg hp]
              by_cases hq : q < p
              · rw [if_pos hq]; intro _ _; rfl
              · rw [if_neg hq]
                have e : p = q := UInt8.le_antisymm (UInt8.not_lt.1 hq) (UInt8.not_lt.1 hp)
                intro h1 h2
                exact ih b h1 (fun e2 => h2 (by rw [e, e2]))
      rw [key _ _ h (fun e2 => e (bl_inj e2))]
/-- how the loop of slices.Compare ends -/
def lexP : List ByteArray → List ByteArray → Unit ⊕ Int
  | [], _ => .inl ()
  | _ :: _, [] => .inr 1
  | a :: r, b :: q => if strC a b = 0 then lexP r q else .inr (strC a b)
theorem lexP_loop (a b : List ByteArray) (ha : a.length < 9223372036854775807) : ∀ (k n : Nat), n ≤ a.length → n ≤ b.length → a.length < k + n → M_s_Compare_string_L1 a b k (n : Int) = some (lexP (a.drop n) (b.drop n))
  | 0, n, h1, _, h2 => by omega
  | k + 1, n, h1, h1', h2 => by
    rw [M_s_Compare_string_L1, sel_dec, List.length_map]
    by_cases hn : n < a.length
    · obtain ⟨x, hx, hd⟩ := drop_at hn
      rw [if_pos (by omega), ix_at hx, sel_dec, List.length_map, hd]
      by_cases hm : n < b.length
      · obtain ⟨y, hy, hd2⟩ := drop_at hm
        rw [if_neg (by omega), ix_at hy, cmpCompare_eq, ob1_some, bne, sel_not, beq_int, sel_dec, w64s (by omega), lexP_loop a b ha k (n + 1) hn hm (by omega), hd2, lexP]
        split
        · rfl
        · rfl
      · rw [if_pos (by omega), List.drop_eq_nil_of_le (show b.length ≤ n by omega)]
        rfl
    · rw [if_neg (by omega), List.drop_eq_nil_of_le (by omega)]
      rfl
theorem lexP_end : ∀ (a b : List ByteArray), osum (fun _ => if (a.length : Int) < (b.length : Int) then some (-1) else some 0) (fun r => some r) (lexP a b) = some (lexC strC a b)
  | [], [] => rfl
  | [], _ :: _ => by rw [lexP, osum_inl, lexC, if_pos (by simp)]
  | _ :: _, [] => rfl
  | x :: a, y :: b => by
    have ih := lexP_end a b
    rw [lexP, lexC]
    by_cases h : strC x y = 0
    · rw [if_pos h, if_pos h, ← ih]
      congr 1
      funext _
      simp
    · rw [if_neg h, if_neg h]
      rfl
theorem slCompare_eq (a b : List ByteArray) (ha : a.length < 9223372036854775807) : M_s_Compare_string a b = some (lexC strC a b) := by
  rw [M_s_Compare_string, List.length_map, List.length_map, Int.toNat_natCast, show (0 : Int) = ((0 : Nat) : Int) from rfl, lexP_loop a b ha _ 0 (Nat.zero_le _) (Nat.zero_le _) (by omega), ob1_some, List.drop_zero, List.drop_zero, ← lexP_end]
  congr 1
  funext _
  rw [sel_dec]
  rfl
theorem sort1_eq (x y : GStep) (hx : x.Args.length < 9223372036854775807) : M_planfile_Sort_1 x y = some (stepC x y) := by
  rw [M_planfile_Sort_1, slCompare_eq _ _ hx, stepC_def, bne, sel_not, beq_int, sel_dec]
  by_cases e : x.At = y.At
  · rw [if_pos e, if_pos e, M_strings_Compare, ob1_some, bne, sel_not, beq_int, sel_dec]
    by_cases h : strC x.Name y.Name = 0
    · rw [if_pos h, if_pos (show Lib.compareBytes x.Name.data.toList y.Name.data.toList = 0 from h), ob1_some]
    · rw [if_neg h, if_neg (show ¬ Lib.compareBytes x.Name.data.toList y.Name.data.toList = 0 from h)]
      rfl
  · rw [if_neg e, if_neg e, sel_dec]
    split <;> rfl
/-- how the loop of the reference's Less ends -/
def lessP : List ByteArray → List ByteArray → Unit ⊕ Bool
  | a :: r, b :: q => if a = b then lessP r q else .inr (decide (strC a b < 0))
  | _, _ => .inl ()
theorem lessP_loop (x y : GStep) (ha : x.Args.length < 9223372036854775807) : ∀ (k n : Nat), n ≤ x.Args.length → x.Args.length < k + n → M_r13_Less_L1 x y k (n : Int) = some (lessP (x.Args.drop n) (y.Args.drop n))
  | 0, n, h1, h2 => by omega
  | k + 1, n, h1, h2 => by
    rw [M_r13_Less_L1, sel_dec, sel_dec, List.length_map, List.length_map]
    by_cases hn : n < x.Args.length
    · obtain ⟨u, hu, hd⟩ := drop_at hn
      rw [if_pos (by omega), hd]
      by_cases hm : n < y.Args.length
      · obtain ⟨v, hv, hd2⟩ := drop_at hm
        rw [if_pos (by omega), ob1_some, osum_inl, ix_at hu, ix_at hv, ix_at hu, ix_at hv, beq_bl, sel_not, sel_dec, w64s (by omega), lessP_loop x y ha k (n + 1) hn (by omega), hd2, lessP, less_str]
        split
        · rfl
        · rfl
      · rw [if_neg (by omega), ob1_some, osum_inr, List.drop_eq_nil_of_le (show y.Args.length ≤ n by omega)]
        rfl
    · rw [if_neg (by omega), ob1_some, osum_inr, List.drop_eq_nil_of_le (show x.Args.length ≤ n by omega)]
      rfl
theorem lessP_end : ∀ (a b : List ByteArray), osum (fun _ => some (decide ((a.length : Int) < (b.length : Int)))) (fun r => some r) (lessP a b) = some (decide (lexC strC a b < 0))
  | [], [] => rfl
  | [], b :: y => by
    show some (decide ((0 : Int) < (((b :: y).length : Nat) : Int))) = _
    rw [decide_eq_true (by rw [List.length_cons]; omega)]
    rfl
  | a :: x, [] => by
    show some (decide ((((a :: x).length : Nat) : Int) < 0)) = _
    rw [decide_eq_false (by omega)]
    rfl
  | x :: a, y :: b => by
    have ih := lessP_end a b
    have h1 := strC_cmp.eq x y
    rw [lessP, lexC]
    by_cases h : x = y
    · rw [if_pos h, if_pos (h1.2 h), ← ih]
      congr 1
      funext _
      simp
    · rw [if_neg h, if_neg (fun e => h (h1.1 e))]
      rfl
theorem less_eq (g : Nat) (x y : GStep) (hx : x.Args.length < 9223372036854775807) (hg : x.Args.length < g) : M_r13_Less g x y = some (decide (stepC x y < 0)) := by
  rw [M_r13_Less, stepC_def, bne, sel_not, beq_int, sel_dec]
  by_cases e : x.At = y.At
  · rw [if_pos e, if_pos e, beq_bl, sel_not, sel_dec]
    by_cases h : x.Name = y.Name
    · rw [if_pos h, if_pos ((strC_cmp.eq _ _).2 h), show (0 : Int) = ((0 : Nat) : Int) from rfl, lessP_loop x y hx g 0 (Nat.zero_le _) (by omega), ob1_some, List.drop_zero, List.drop_zero, List.length_map, List.length_map, lessP_end]
      rfl
    · rw [if_neg h, if_neg (fun e2 => h ((strC_cmp.eq _ _).1 e2)), less_str]
  · rw [if_neg e, if_neg e]
    by_cases h : x.At < y.At
    · rw [if_pos h, decide_eq_true h, decide_eq_true (by decide)]
    · rw [if_neg h, decide_eq_false h, decide_eq_false (by decide)]
/-- steps of a machine's size -/
def SmallS (l : List GStep) : Prop := l.length * 48 ≤ 140737488355328 ∧ ∀ x ∈ l, x.Args.length * 16 ≤ 140737488355328
/-- in order -/
def OrdS (l : List GStep) : Prop := l.Pairwise (fun x y => stepC x y ≤ 0)
theorem ord_unique {a b : List GStep} (ha : OrdS a) (hb : OrdS b) (h : a.Perm b) : a = b :=
  List.Perm.eq_of_pairwise (fun x y _ _ h1 h2 => stepC_cmp.le_asym h1 h2) ha hb h
theorem copy_loop (l : List GStep) (hl : SmallS l) : ∀ (k n : Nat), n ≤ l.length → l.length < k + n → M_planfile_Sort_L1 l k (n : Int) (l.take n) = some l
  | 0, n, h1, h2 => by omega
  | k + 1, n, h1, h2 => by
    have h3 := hl.1
    rw [M_planfile_Sort_L1, sel_dec, List.length_map]
    by_cases hn : n < l.length
    · obtain ⟨x, hx, hd⟩ := drop_at hn
      have h4 := hl.2 x (List.mem_of_getElem? hx)
      rw [if_pos (by omega), ix_at hx, M_cloneS, grd_t h4, ob1_some, List.length_take, grd_t (by omega), w64s (by omega)]
      have e : l.take n ++ [({ At := x.At, Name := x.Name, Args := x.Args } : GStep)] = l.take (n + 1) := by
        rw [List.take_add_one, hx]; rfl
      rw [e]
      exact copy_loop l hl k (n + 1) hn (by omega)
    · rw [if_neg (by omega), List.take_of_length_le (by omega)]
theorem gsort_eq (g : Nat) (l : List GStep) (hl : SmallS l) (hg : 2 * l.length + 4 ≤ g) : ∃ l', M_planfile_Sort g l = some l' ∧ l'.Perm l ∧ OrdS l' := by
  have h3 := hl.1
  let P : GStep → Prop := fun x => x.Args.length < 9223372036854775807
  have ok : Ok P stepC M_planfile_Sort_1 := fun x y hx _ => sort1_eq x y hx
  have hP : All P l.length (fun k => l.getD k step0) := fun k hk => by
    show (l.getD k step0).Args.length < _
    rw [List.getD_eq_getElem?_getD, List.getElem?_eq_getElem hk]
    have := hl.2 _ (List.getElem_mem hk)
    simp only [Option.getD_some]
    omega
  obtain ⟨f', q1, q2, q3⟩ := stable_eq stepC_cmp.ord (by omega) ok g hg (fun k => l.getD k step0) hP
  rw [← lof_of] at q1
  refine ⟨lof l.length f', ?_, ?_, ?_⟩
  · have := copy_loop l hl (l.length + 1) 0 (Nat.zero_le _) (by omega)
    rw [M_planfile_Sort, List.length_map, Int.toNat_natCast, show (0 : Int) = ((0 : Nat) : Int) from rfl, show ([] : List GStep) = l.take 0 from rfl, this, ob1_some, q1, ob1_some, lof_len, grd_t rfl, grd_t (by omega)]
  · have := lof_perm q2
    rwa [← lof_of] at this
  · unfold OrdS lof
    rw [List.pairwise_map]
    refine List.Pairwise.imp_of_mem ?_ (List.pairwise_lt_range (n := l.length))
    intro i j hi hj hij
    have := q3 i j (Nat.zero_le _) hij (List.mem_range.1 hj)
    unfold leB ltc at this
    have h2 := of_decide_eq_false this
    have h3 := stepC_cmp.anti (f' j) (f' i)
    omega
/-- the place at which the reference inserts -/
theorem place_loop (g : Nat) (v : List GStep) (x : GStep) (hv : v.length * 48 ≤ 140737488355328) (hx : x.Args.length < 9223372036854775807) (hg : x.Args.length < g) : ∀ (k n : Nat), n ≤ v.length → n < k → (∀ j y, n ≤ j → v[j]? = some y → stepC x y < 0) →
    ∃ m : Nat, M_r13_Sort_L1 g v x k (n : Int) = some (m : Int) ∧ m ≤ v.length ∧ (∀ j y, m ≤ j → v[j]? = some y → stepC x y < 0) ∧ (∀ y, 0 < m → v[m - 1]? = some y → ¬ stepC x y < 0)
  | 0, n, _, h, _ => by omega
  | k + 1, n, h1, h2, h3 => by
    rw [M_r13_Sort_L1, sel_dec]
    by_cases hn : 0 < n
    · obtain ⟨y, hy, _⟩ := drop_at (l := v) (n := n - 1) (by omega)
      have e : IntKind.i64.wrap ((n : Int) - 1) = ((n - 1 : Nat) : Int) := by rw [w64 (by omega) (by omega)]; omega
      rw [if_pos (by omega), e, Int.toNat_natCast, ixn_at hy, less_eq g x y hx hg, ob1_some, grd_t (by omega), grd_t (by omega), sel_dec]
      by_cases hl : stepC x y < 0
      · rw [if_pos hl]
        refine place_loop g v x hv hx hg k (n - 1) (by omega) (by omega) (fun j z hj hz => ?_)
        by_cases e2 : j = n - 1
        · subst e2; rw [hy] at hz; cases hz; exact hl
        · exact h3 j z (by omega) hz
      · rw [if_neg hl]
        exact ⟨n, rfl, h1, h3, fun z _ hz => by rw [hy] at hz; cases hz; exact hl⟩
    · rw [if_neg (by omega)]
      exact ⟨n, rfl, h1, h3, fun z h => by omega⟩
theorem ins_ord {v : List GStep} {x : GStep} {m : Nat} (hv : OrdS v) (h1 : ∀ j y, m ≤ j → v[j]? = some y → stepC x y < 0) (h2 : ∀ y, 0 < m → v[m - 1]? = some y → ¬ stepC x y < 0) (hm : m ≤ v.length) : OrdS (v.take m ++ [x] ++ v.drop m) ∧ (v.take m ++ [x] ++ v.drop m).Perm (x :: v) := by
  have e : v.take m ++ [x] ++ v.drop m = v.take m ++ x :: v.drop m := by simp
  rw [e]
  constructor
  · have hv' : OrdS (v.take m ++ v.drop m) := by rw [List.take_append_drop]; exact hv
    unfold OrdS at hv' ⊢
    rw [List.pairwise_append] at hv' ⊢
    obtain ⟨p1, p2, p3⟩ := hv'
    have hlo : ∀ a ∈ v.take m, stepC a x ≤ 0 := by
      intro a ha
      have hm0 : 0 < m := by
        rcases Nat.eq_zero_or_pos m with e | e
        · subst e; simp at ha
        · exact e
      obtain ⟨y, hy, _⟩ := drop_at (l := v) (n := m - 1) (by omega)
      have h4 := h2 y hm0 hy
      have h5 : stepC y x ≤ 0 := by rcases stepC_cmp.total y x with h | h <;> omega
      have h6 : stepC a y ≤ 0 := by
        obtain ⟨i, hi⟩ := List.mem_iff_getElem?.1 ha
        rw [List.getElem?_take] at hi
        by_cases him : i < m
        · rw [if_pos him] at hi
          by_cases e : i = m - 1
          · subst e; rw [hy] at hi; injection hi with hi; rw [hi, stepC_cmp.self]; exact Int.le_refl _
          · have hiv : i < v.length := by omega
            have h7 := List.pairwise_iff_getElem.1 hv i (m - 1) hiv (by omega) (by omega)
            rw [List.getElem?_eq_getElem hiv] at hi
            rw [List.getElem?_eq_getElem (by omega)] at hy
            injection hi with hi
            injection hy with hy
            rw [← hi, ← hy]
            exact h7
        · rw [if_neg him] at hi; cases hi
      exact stepC_cmp.le_trans h6 h5
    refine ⟨p1, ?_, ?_⟩
    · rw [List.pairwise_cons]
      refine ⟨fun a ha => ?_, p2⟩
      obtain ⟨i, hi⟩ := List.mem_iff_getElem?.1 ha
      rw [List.getElem?_drop] at hi
      have := h1 (m + i) a (by omega) hi
      omega
    · intro a ha b hb
      rcases List.mem_cons.1 hb with rfl | hb
      · exact hlo a ha
      · exact p3 a ha b hb
  · have h3 : (v.take m ++ x :: v.drop m).Perm (x :: (v.take m ++ v.drop m)) := List.perm_middle
    rwa [List.take_append_drop] at h3
theorem rsort_loop (g : Nat) (l : List GStep) (hl : SmallS l) (hg : ∀ x ∈ l, x.Args.length < g) (hg2 : l.length < g) : ∀ (k n : Nat) (v : List GStep), n ≤ l.length → l.length < k + n → v.Perm (l.take n) → OrdS v → ∃ v', M_r13_Sort_L2 l g k (n : Int) v = some v' ∧ v'.Perm l ∧ OrdS v'
  | 0, n, v, h1, h2, _, _ => by omega
  | k + 1, n, v, h1, h2, hp, ho => by
    have h3 := hl.1
    have hlen := hp.length_eq
    rw [List.length_take] at hlen
    rw [M_r13_Sort_L2, sel_dec, List.length_map]
    by_cases hn : n < l.length
    · obtain ⟨x, hx, hd⟩ := drop_at hn
      have hxm := List.mem_of_getElem? hx
      have h4 := hl.2 x hxm
      obtain ⟨m, m1, m2, m3, m4⟩ := place_loop g v x (by omega) (by omega) (hg x hxm) g v.length (Nat.le_refl _) (by omega) (fun j y hj hy => by rw [List.getElem?_eq_none hj] at hy; cases hy)
      obtain ⟨o1, o2⟩ := ins_ord ho m3 m4 m2
      have e1 : (v.take (v.map cGStep).length).drop m = v.drop m := by rw [List.length_map, List.take_of_length_le (Nat.le_refl _)]
      rw [if_pos (by omega), ix_at hx, m1, ob1_some]
      simp only [e1, Int.toNat_natCast, List.drop_zero]
      rw [List.length_map]
      rw [grd_t (by omega), grd_t (by omega), grd_t (by omega), grd_t (by omega), grd_t (by rw [List.length_take]; omega), grd_t (by rw [List.length_take]; omega), grd_t (by rw [List.length_take, List.length_drop]; omega), ob1_some, w64s (by omega)]
      refine rsort_loop g l hl hg hg2 k (n + 1) _ hn (by omega) ?_ o1
      refine o2.trans ?_
      rw [List.take_add_one, hx]
      exact (hp.cons x).trans (List.perm_append_comm (l₁ := [x]))
    · rw [if_neg (by omega), grd_t (by omega)]
      rw [List.take_of_length_le (by omega)] at hp
      exact ⟨v, rfl, hp, ho⟩
theorem rsort_eq (g : Nat) (l : List GStep) (hl : SmallS l) (hg : ∀ x ∈ l, x.Args.length < g) (hg2 : l.length < g) : ∃ l', M_r13_Sort g l = some l' ∧ l'.Perm l ∧ OrdS l' := by
  rw [M_r13_Sort, List.length_map, Int.toNat_natCast, show (0 : Int) = ((0 : Nat) : Int) from rfl]
  exact rsort_loop g l hl hg hg2 _ 0 [] (Nat.zero_le _) (by omega) (List.Perm.refl _) List.Pairwise.nil
/-- long answers -/
theorem longL1 (y : GStep) (hy : y.Args.length < 9223372036854775807) : ∀ (k n : Nat) (v : Int), n ≤ y.Args.length → y.Args.length < k + n → ∃ r, M_l13_long_L1 y k v (n : Int) = some r
  | 0, n, v, h1, h2 => by omega
  | k + 1, n, v, h1, h2 => by
    rw [M_l13_long_L1, sel_dec, List.length_map]
    by_cases hn : n < y.Args.length
    · obtain ⟨x, hx, _⟩ := drop_at hn
      rw [if_pos (by omega), ix_at hx, w64s (by omega)]
      exact longL1 y hy k (n + 1) _ hn (by omega)
    · rw [if_neg (by omega)]
      exact ⟨_, rfl⟩
theorem longL2 (l : List GStep) (hl : SmallS l) : ∀ (k n : Nat) (v : Int), n ≤ l.length → l.length < k + n → ∃ r, M_l13_long_L2 l k v (n : Int) = some r
  | 0, n, v, h1, h2 => by omega
  | k + 1, n, v, h1, h2 => by
    have h3 := hl.1
    rw [M_l13_long_L2, sel_dec, List.length_map]
    by_cases hn : n < l.length
    · obtain ⟨x, hx, _⟩ := drop_at hn
      have h4 := hl.2 x (List.mem_of_getElem? hx)
      obtain ⟨r, hr⟩ := longL1 x (by omega) (x.Args.length + 1) 0 (IntKind.i64.wrap (v + IntKind.i64.wrap ((x.Name.size : Int) + ((x.Args.map cS).length : Int)))) (Nat.zero_le _) (by omega)
      have hr' : M_l13_long_L1 x ((((x.Args.map cS).length : Int)).toNat + 1) (IntKind.i64.wrap (v + IntKind.i64.wrap ((x.Name.size : Int) + ((x.Args.map cS).length : Int)))) 0 = some r := by
        rw [← hr, List.length_map, Int.toNat_natCast]; rfl
      rw [if_pos (by omega), ix_at hx, hr', ob1_some, w64s (by omega)]
      exact longL2 l hl k (n + 1) r hn (by omega)
    · rw [if_neg (by omega)]
      exact ⟨_, rfl⟩
theorem long_some (l : List GStep) (hl : SmallS l) : ∃ b, M_l13_long l = some b := by
  rw [M_l13_long, List.length_map, Int.toNat_natCast]
  exact longL2 l hl (l.length + 1) 0 _ (Nat.zero_le _) (by omega)
theorem SmallS.perm {a b : List GStep} (h : SmallS b) (p : a.Perm b) : SmallS a := ⟨by rw [p.length_eq]; exact h.1, fun x hx => h.2 x (p.mem_iff.1 hx)⟩
theorem same_self (l : List GStep) (hl : SmallS l) : M_l13_Same l l = some true := by
  have h3 := hl.1
  rw [same_eq l l (by omega) (fun x hx => by have := hl.2 x hx; omega), decide_eq_true rfl]
theorem sorts_true (l : List GStep) (hl : SmallS l) : M_l13_PlanfileSorts 20000000000000 l = some true := by
  have h3 := hl.1
  obtain ⟨b, hb⟩ := long_some l hl
  rw [M_l13_PlanfileSorts, hb, ob1_some, awake_eq, ob1_some, ob1_some]
  cases b with
  | true => rfl
  | false =>
    obtain ⟨s, s1, s2, s3⟩ := gsort_eq 20000000000000 l hl (by omega)
    obtain ⟨t, t1, t2, t3⟩ := rsort_eq 20000000000000 l hl (fun x hx => by have := hl.2 x hx; omega) (by omega)
    obtain rfl := ord_unique s3 t3 (s2.trans t2.symm)
    rw [sel_ff, sel_not, sel_tt, s1, ob1_some, t1, ob1_some, same_self _ (hl.perm s2), ob1_some]
end Go.Proofs.YtljekaadbabhkaaDoor.Am
/- Opening arguments: slices of numbers, of facts, of nogoods, a certificate. -/
namespace Go.Proofs.YtljekaadbabhkaaDoor
open Go.RowKit Go.ChangeShapes Go.WideShapes Go.Deep Go.Joins

section
variable {H : Type} {enc : TypeId × Value → H} {P : Program} {w : World} {base : Nat} {spare : Nat → Bool} {held : Bool}

/-- within the form's reach -/
def Sized (P : Program) (t : TypeId) (d : DataW H) : Prop := ∀ n ∈ d.weights P t, n ≤ reachBytes
theorem sized_arg {ts : List TypeId} {ds : List (DataW H)} (h : (DataW.weightsEach P ts ds).all (· ≤ reachBytes) = true) {j : Nat} {t : TypeId} {d : DataW H} (ht : ts[j]? = some t) (hd : ds[j]? = some d) : Sized P t d :=
  fun n hn => of_decide_eq_true (List.all_eq_true.1 h n (DataW.weights_mem_each ht hd n hn))
theorem sized_field {t : TypeId} {fs : Array Field} {parts : List (DataW H)} (h : Sized P t (.agg parts)) (hu : P.underlying t = some (.struct fs)) {j : Nat} {f : Field} {d : DataW H} (hf : fs[j]? = some f) (hd : parts[j]? = some d) : Sized P f.type d :=
  fun n hn => h n (by
    simp only [DataW.weights, hu]
    exact DataW.weights_mem_each (j := j) (by simp [List.getElem?_map, hf]) hd n hn)
theorem weightsAll_mem {e : TypeId} : ∀ {l : List (DataW H)} {d : DataW H}, d ∈ l → ∀ n ∈ d.weights P e, n ∈ DataW.weightsAll P e l
  | x :: l, d, hd, n, hn => by
    simp only [DataW.weightsAll, List.mem_append]
    rcases List.mem_cons.1 hd with rfl | h
    · exact Or.inl hn
    · exact Or.inr (weightsAll_mem h n hn)
theorem sized_elem {t e : TypeId} {elems sp : List (DataW H)} (h : Sized P t (.slice elems sp)) (hu : P.underlying t = some (.slice e)) {d : DataW H} (hd : d ∈ elems) : Sized P e d :=
  fun n hn => h n (by
    simp only [DataW.weights, hu, List.mem_cons, List.mem_append]
    exact Or.inr (Or.inl (weightsAll_mem hd n hn)))
theorem sized_len {t e : TypeId} {elems sp : List (DataW H)} (h : Sized P t (.slice elems sp)) (hu : P.underlying t = some (.slice e)) : elems.length * P.bytesOf e ≤ 140737488355328 := by
  have h1 := h ((elems.length + sp.length) * P.bytesOf e) (by simp [DataW.weights, hu])
  have h2 : elems.length * P.bytesOf e ≤ (elems.length + sp.length) * P.bytesOf e := Nat.mul_le_mul_right _ (by omega)
  have h3 : reachBytes ≤ 140737488355328 := by decide
  omega

end

theorem spot_of_cell {w : World} {p : Addr} {v : Value} (h : w.cell? p = some v) : p.spot = none := by
  unfold World.cell? at h
  split at h
  · split at h
    · cases h
    · rename_i hs; simpa using hs
  · cases h
theorem addr_of_cell {w : World} {a : Addr} {k : Nat} {v : Value} (h0 : ∃ u, w.cell? (a.add 0) = some u) (h : w.cell? (a.add k) = some v) : a = ⟨a.block, a.off, none⟩ ∧ w.cell? ⟨a.block, a.off + k, none⟩ = some v := by
  obtain ⟨u, hu⟩ := h0
  have hs := spot_of_cell hu
  obtain ⟨b, off, sp⟩ := a
  simp [Addr.add] at hs
  subst hs
  refine ⟨rfl, ?_⟩
  rw [← h]
  congr 1
  unfold Addr.add
  split
  · subst k; rfl
  · rfl

theorem list_of {α : Type} (n : Nat) (R : Nat → α → Prop) (h : ∀ i, i < n → ∃ x, R i x) : ∃ l : List α, l.length = n ∧ ∀ k x, l[k]? = some x → R k x := by
  induction n with
  | zero => exact ⟨[], rfl, fun k x hx => by simp at hx⟩
  | succ n ih =>
    obtain ⟨l, hl, hr⟩ := ih (fun i hi => h i (by omega))
    obtain ⟨x, hx⟩ := h n (by omega)
    refine ⟨l ++ [x], by simp [hl], fun k y hy => ?_⟩
    by_cases hk : k < n
    · rw [List.getElem?_append_left (by omega)] at hy
      exact hr k y hy
    · rw [List.getElem?_append_right (by omega)] at hy
      have hk' : k - l.length = 0 := by
        have := (List.getElem?_eq_some_iff.1 hy).1
        simp at this
        omega
      rw [hk'] at hy
      simp at hy
      subst hy
      obtain rfl : k = n := by omega
      exact hx

end Go.Proofs.YtljekaadbabhkaaDoor
/- Opening arguments for the abstract machine: readers that compose. -/
namespace Go.Proofs.YtljekaadbabhkaaDoor.Am
open Go.RowKit Go.ChangeShapes Go.WideShapes Go.Deep Go.Joins

/-- nothing is owned at the start -/
abbrev mZ : MM := mO (fun _ => False)
theorem noZ (b : Nat) : ¬ Owned nov mZ b := fun h => owned_nov.1 h

section
variable {H : Type} {enc : TypeId × Value → H} {P : Program} {w : World} {base : Nat} {spare : Nat → Bool} {held : Bool}
/-- cells that stand for the values -/
def CellsRv (w : World) (es : List AV) (cs : List Value) : Prop := es.length = cs.length ∧ (∀ (j : Nat) (y : AV) (u : Value), es[j]? = some y → cs[j]? = some u → RV w nov mZ y u ∧ u.oneCell' = true) ∧ ∀ y ∈ es, Fr y
/-- data of type t read as an α -/
def Opens (enc : TypeId × Value → H) (P : Program) (w : World) (base : Nat) (spare : Nat → Bool) (held : Bool) (t : TypeId) {α : Type} (en : α → List AV) (R : α → Prop) : Prop :=
  ∀ (fuel : Nat) (cs : List Value) (x : DataW H × List MemPlace), DataW.trod enc P w base spare held fuel t cs = some x → Sized P t x.1 → ∃ a, R a ∧ CellsRv w (en a) cs

theorem cells_one1 {y : AV} {u : Value} (h : RV w nov mZ y u) (h1 : u.oneCell' = true) (hf : Fr y) : CellsRv w [y] [u] := by
  refine ⟨rfl, fun j z v hz hv => ?_, fun z hz => by simp at hz; subst hz; exact hf⟩
  cases j with
  | zero => simp at hz hv; subst hz hv; exact ⟨h, h1⟩
  | succ j => simp at hz
theorem opens_int {t : TypeId} {k : IntKind} (ht : P.underlying t = some (.int k)) : Opens enc P w base spare held t (fun z : Int => [.c (.int k z)]) (fun z => (Lit.int k z).wf = true) := by
  intro fuel cs x h _
  obtain ⟨z, rfl, _, wz⟩ := DataW.trod_int ht h
  exact ⟨z, wz, cells_one1 (.c _) rfl (.c _)⟩
theorem opens_slice {t e : TypeId} {α : Type} {en : α → List AV} {R : α → Prop} {sz by_ : Nat} (ht : P.underlying t = some (.slice e)) (hc : P.cellsOf e = sz) (hb : P.bytesOf e = by_) (hby : 0 < by_) (hsz : 0 < sz) (he : Opens enc P w base spare held e en R) :
    Opens enc P w base spare held t (fun l : List α => [.sl sz (l.map en)]) (fun l => l.length * by_ ≤ 140737488355328 ∧ ∀ x ∈ l, R x) := by
  intro fuel cs x h hs
  rcases open_slice ht h with ⟨rfl, _⟩ | ⟨a, len, cap, m, n, D, Pl, rfl, _, hl, hm, hmm, rfl, hi⟩
  · refine ⟨[], ⟨by simp, by simp⟩, cells_one1 ?_ rfl (.sl (fun e he => by cases he))⟩
    exact RV.sl (l := []) (b := 0) (off := 0) (f := fun _ _ => undef) (fun h => absurd rfl h) (Nat.zero_le _) (by simp) (fun k e h => by simp at h) (fun k j e x h => by simp at h) (fun k j e x h => by simp at h) (fun e he => by cases he)
  · have hlen := sized_len hs ht
    rw [hb] at hlen
    simp only [List.length_map, List.length_range] at hlen
    have hml : len ≤ m := by rw [hmm]; split <;> omega
    have hcell : ∀ i, i < len → ∃ z : α, R z ∧ ∃ cs', CellsRv w (en z) cs' ∧ cs'.length = sz ∧ ∀ j, j < sz → w.cell? (a.add (i * sz + j)) = cs'[j]? := by
      intro i hi'
      obtain ⟨cs', hcc, ht'⟩ := hi i (by omega)
      rw [hc] at hcc
      obtain ⟨z, hz, hcr⟩ := he n cs' _ ht' (sized_elem hs ht (List.mem_map.2 ⟨i, by simpa using hi', rfl⟩))
      obtain ⟨_, hcl', hat⟩ := World.cells?_some hcc
      exact ⟨z, hz, cs', hcr, hcl', fun j hj => by rw [← hat j hj, Go.Deep.add_add]⟩
    obtain ⟨l, hl', hat⟩ := list_of len _ hcell
    have hR : ∀ x ∈ l, R x := fun x hx => by
      obtain ⟨k, hk⟩ := List.getElem?_of_mem hx
      exact (hat k x hk).1
    have hfr : FrL (l.map en) := by
      intro e he
      obtain ⟨x, hx, rfl⟩ := List.mem_map.1 he
      obtain ⟨k, hk⟩ := List.getElem?_of_mem hx
      obtain ⟨_, cs', hcr, _⟩ := hat k x hk
      exact hcr.2.2
    refine ⟨l, ⟨by rw [hl']; exact hlen, hR⟩, cells_one1 ?_ rfl (.sl hfr)⟩
    have key : ∀ (k j : Nat) (e : List AV) (y : AV), (l.map en)[k]? = some e → e[j]? = some y → e.length = sz ∧ ∃ u, w.cell? ⟨a.block, a.off + (k * sz + j), none⟩ = some u ∧ u.oneCell' = true ∧ RV w nov mZ y u ∧ a = ⟨a.block, a.off, none⟩ ∧ a.block < w.heap.size := by
      intro k j e y hk hj
      rw [List.getElem?_map] at hk
      cases hx : l[k]? with
      | none => rw [hx] at hk; cases hk
      | some z =>
        rw [hx] at hk
        simp at hk
        subst hk
        obtain ⟨_, cs', ⟨c1, c2, _⟩, c4, c5⟩ := hat k z hx
        have hjl : j < sz := by rw [← c4, ← c1]; exact (List.getElem?_eq_some_iff.1 hj).1
        have hcj := c5 j hjl
        have hget : cs'[j]? = some (cs'[j]'(by omega)) := List.getElem?_eq_getElem _
        rw [hget] at hcj
        obtain ⟨r1, r2⟩ := c2 j y _ hj hget
        have h0 : 0 < len := by have := (List.getElem?_eq_some_iff.1 hx).1; omega
        obtain ⟨_, _, cs0, ⟨_, _, _⟩, d4, d5⟩ := hcell 0 h0
        have hz0 := d5 0 hsz
        rw [List.getElem?_eq_getElem (by omega)] at hz0
        obtain ⟨e1, e2⟩ := addr_of_cell ⟨_, by simpa using hz0⟩ hcj
        exact ⟨by rw [c1, c4], _, e2, r2, r1, e1, lt_of_cell (p := ⟨a.block, a.off + (k * sz + j), none⟩) e2⟩
    have hlen2 : (l.map en).length = len := by simp [hl']
    have := RV.sl (w := w) (vs := nov) (m := mZ) (sz := sz) (l := l.map en) (A := some a) (cap := cap) (b := a.block) (off := a.off) (f := fun k j => (w.cell? ⟨a.block, a.off + (k * sz + j), none⟩).getD undef)
      (fun hne => ?_) (by omega) (by rw [hlen2]; exact Nat.le_trans (Nat.le_mul_of_pos_right _ hby) hlen) (fun k e hk => ?_) (fun k j e y hk hj => ?_) (fun k j e y hk hj => ?_) hfr
    · rw [hlen2] at this
      exact this
    · have h0 : 0 < (l.map en).length := List.length_pos_iff.2 hne
      have hk := List.getElem?_eq_getElem h0
      obtain ⟨x0, hx0, hx0'⟩ : ∃ x0, l[0]? = some x0 ∧ (l.map en)[0] = en x0 := by
        have h1 : 0 < l.length := by simpa using h0
        exact ⟨l[0], List.getElem?_eq_getElem h1, by simp⟩
      obtain ⟨_, cs', ⟨c1, _, _⟩, c4, _⟩ := hat 0 x0 hx0
      have hel : 0 < ((l.map en)[0]).length := by rw [hx0', c1, c4]; exact hsz
      obtain ⟨_, _, _, _, _, q1, q2⟩ := key 0 0 _ _ hk (List.getElem?_eq_getElem hel)
      exact ⟨by rw [← q1], noZ _, q2⟩
    · rw [List.getElem?_map] at hk
      cases hx : l[k]? with
      | none => rw [hx] at hk; cases hk
      | some z =>
        rw [hx] at hk
        simp at hk
        subst hk
        obtain ⟨_, cs', ⟨c1, _, _⟩, c4, _⟩ := hat k z hx
        rw [c1, c4]
    · obtain ⟨_, u, q1, q2, _⟩ := key k j e y hk hj
      rw [q1]
      exact ⟨rfl, q2⟩
    · obtain ⟨_, u, q1, _, q3, _⟩ := key k j e y hk hj
      rw [q1]
      exact q3

/-- fields from one on -/
def OpensF (enc : TypeId × Value → H) (P : Program) (w : World) (base : Nat) (spare : Nat → Bool) (held : Bool) (fs : List Field) (off tot : Nat) {α : Type} (en : α → List AV) (R : α → Prop) : Prop :=
  ∀ (fuel : Nat) (cs : List Value) (xs : List (DataW H × List MemPlace)), cs.length = tot → xs.length = fs.length → (∀ (i : Nat) (f : Field), fs[i]? = some f → DataW.trod enc P w base spare held fuel f.type ((cs.drop f.offset).take (P.cellsOf f.type)) = xs[i]?) →
    (∀ (i : Nat) (f : Field) (x : DataW H × List MemPlace), fs[i]? = some f → xs[i]? = some x → Sized P f.type x.1) → ∃ a, R a ∧ CellsRv w (en a) (cs.drop off)
theorem cells_append {a b : List AV} {xs ys : List Value} (h1 : CellsRv w a xs) (h2 : CellsRv w b ys) : CellsRv w (a ++ b) (xs ++ ys) := by
  refine ⟨by rw [List.length_append, List.length_append, h1.1, h2.1], fun j y u hy hu => ?_, fun y hy => ?_⟩
  · rcases Nat.lt_or_ge j a.length with hlt | hge
    · rw [List.getElem?_append_left hlt] at hy
      rw [List.getElem?_append_left (by rw [← h1.1]; exact hlt)] at hu
      exact h1.2.1 j y u hy hu
    · rw [List.getElem?_append_right hge] at hy
      rw [List.getElem?_append_right (by rw [← h1.1]; exact hge)] at hu
      rw [h1.1] at hy
      exact h2.2.1 _ y u hy hu
  · rcases List.mem_append.1 hy with h | h
    · exact h1.2.2 y h
    · exact h2.2.2 y h
theorem opensF_last {f : Field} {off tot : Nat} {α : Type} {en : α → List AV} {R : α → Prop} (ho : f.offset = off) (htot : off + P.cellsOf f.type = tot) (h : Opens enc P w base spare held f.type en R) : OpensF enc P w base spare held [f] off tot en R := by
  intro fuel cs xs hcl hx ht hs
  obtain ⟨x, rfl⟩ := List.length_eq_one_iff.1 hx
  have h1 := ht 0 f rfl
  obtain ⟨a, ha, hc⟩ := h fuel _ x h1 (hs 0 f x rfl rfl)
  refine ⟨a, ha, ?_⟩
  rw [ho, List.take_of_length_le (by simp; omega)] at hc
  exact hc
theorem opensF_cons {f : Field} {fs : List Field} {off off' tot : Nat} {α β : Type} {en : α → List AV} {R : α → Prop} {en' : β → List AV} {R' : β → Prop} (ho : f.offset = off) (hoff : off + P.cellsOf f.type = off') (h : Opens enc P w base spare held f.type en R) (h' : OpensF enc P w base spare held fs off' tot en' R') :
    OpensF enc P w base spare held (f :: fs) off tot (fun p : α × β => en p.1 ++ en' p.2) (fun p => R p.1 ∧ R' p.2) := by
  intro fuel cs xs hcl hx ht hs
  cases xs with
  | nil => simp at hx
  | cons x xs =>
    obtain ⟨a, ha, hc⟩ := h fuel _ x (ht 0 f rfl) (hs 0 f x rfl rfl)
    obtain ⟨b, hb, hc'⟩ := h' fuel cs xs hcl (by simpa using hx) (fun i g hg => by simpa using ht (i + 1) g (by simpa using hg)) (fun i g y hg hy => hs (i + 1) g y (by simpa using hg) (by simpa using hy))
    refine ⟨(a, b), ⟨ha, hb⟩, ?_⟩
    rw [ho] at hc
    have : cs.drop off = (cs.drop off).take (P.cellsOf f.type) ++ cs.drop off' := by
      rw [← hoff, ← List.drop_drop, List.take_append_drop]
    rw [this]
    exact cells_append hc hc'
theorem opens_struct {t : TypeId} {fs : Array Field} {α : Type} {en : α → List AV} {R : α → Prop} (ht : P.underlying t = some (.struct fs)) (h : OpensF enc P w base spare held fs.toList 0 (P.cellsOf t) en R) : Opens enc P w base spare held t en R := by
  intro fuel cs x hx hs
  obtain ⟨xs, n, _, rfl, hcl, hxl, hf⟩ := DataW.trod_struct ht hx
  obtain ⟨a, ha, hc⟩ := h n cs xs hcl (by simpa using hxl) (fun i f hi => hf i f (by simpa using hi)) (fun i f y hi hy => sized_field hs ht (j := i) (by simpa using hi) (by simp [List.getElem?_map, hy]))
  exact ⟨a, ha, by simpa using hc⟩

theorem one_rv {y : AV} {u : Value} (h : CellsRv w [y] [u]) : RV w nov mZ y u := (h.2.1 0 y u rfl rfl).1
end
end Go.Proofs.YtljekaadbabhkaaDoor.Am
/- From a walk to a law's row: the arguments read behind the call as before, the result is true. -/
namespace Go.Proofs.YtljekaadbabhkaaDoor
open Go.RowKit Go.WideShapes Go.ChangeShapes Go.ChangeAt
section
variable {H : Type} {enc : TypeId × Value → H} {P : Program}
theorem post_of_below {f : Func} {s : ChangeSpec} {apart fresh handsOn again : Bool} {W W' : World} {args : Array Value} {v : Value} {ds gs : List (DataW H)} {before pa pv : List MemPlace}
    (hW : DataW.Whole enc P f.params.toList s.vars apart W args.toList ds gs before)
    (hres : ∀ (b : Nat) (sp : Nat → Bool) (hd : Bool), DataW.TrodAll enc P W' b sp hd f.resultTypes.toList (v.resultList f.resultTypes.size) (s.fn H (ds ++ gs)).results [])
    (hargs : ∀ sp : Nat → Bool, (∀ p ∈ before, sp p.block = true) → DataW.TrodAll enc P W' 0 sp true f.params.toList args.toList (s.fn H (ds ++ gs)).args pa)
    (hvars : ∀ sp : Nat → Bool, (∀ p ∈ before, sp p.block = true) → DataW.TrodVars enc P W' sp s.vars (s.fn H (ds ++ gs)).vars pv)
    (hps : before = pa ++ pv) (hb : Below W.heap.size W W')
    (hok : ∀ (j : Nat) (t : TypeId) (r : Value), f.resultTypes[j]? = some t → (v.resultList f.resultTypes.size)[j]? = some r → Value.okWide P W' .any 0 t r) :
    s.post enc P f apart fresh handsOn again W args v W' := by
  have hlt : ∀ p ∈ before, p.block < W.heap.size := fun p hp => hW.lt p hp
  have hold : ∀ p ∈ before, (fun b => decide (b < W.heap.size)) p.block = true := fun p hp => by simpa using hlt p hp
  refine ⟨ds, gs, before, [], pa, pv, hW, hres _ _ _, hargs _ hold, hvars _ hold, World.keptBut_mono (fun p hp => ⟨hp, ?_⟩) (hb.frame (· ∈ before)), fun _ => ?_⟩
  · rw [hps, List.mem_append] at hp
    exact Or.inr hp
  · obtain ⟨_, _, _, _, _, hz, hn⟩ := hW
    refine ⟨hok, _, _, ([] ++ pa) ++ pv, ⟨[] ++ pa, pv, trodAll_append (hargs _ (fun _ _ => rfl)) (hres _ _ _), hvars _ (fun _ _ => rfl), rfl, ?_, ?_⟩, ?_⟩
    · intro b off hp
      have hin : MemPlace.cell b off ∈ before := by rw [hps]; simpa using hp
      rw [hb.frozen (hlt _ hin)]
      exact hz b off hin
    · intro ha
      have := hn ha
      rw [hps] at this
      simpa using this
    · intro p hp _
      rw [hps]
      simpa using hp

theorem trodAll_keep (hl : laidOutB P = true) {W W' : World} (hb : Below W.heap.size W W') (sp : Nat → Bool) (ts : List TypeId) : ∀ (vs : List Value) (ds : List (DataW H)) (ps : List MemPlace), (∀ t ∈ ts, P.readableRec t = true ∧ t < P.types.size) →
    DataW.TrodAll enc P W 0 (fun _ => true) true ts vs ds ps → (∀ x ∈ ps, x.block < W.heap.size) → (∀ x ∈ ps, sp x.block = true) → DataW.TrodAll enc P W' 0 sp true ts vs ds ps := by
  induction ts with
  | nil =>
    intro vs ds ps _ h _ _
    obtain ⟨rfl, rfl, rfl⟩ := trodAll_nil h
    exact trodAll_mk0
  | cons t ts ih =>
    intro vs ds ps hts h hlt hsp
    obtain ⟨v0, vs0, d0, ds0, p0, q0, rfl, rfl, rfl, h0, r0⟩ := trodAll_cons h
    obtain ⟨hr, hrow⟩ := hts t (by simp)
    exact trodAll_cons_mk (WideElems.Trod_stays hl hr hrow h0 (fun x hx => hb.same (hlt x (by simp [hx]))) (fun x hx => hsp x (by simp [hx])))
      (ih _ _ _ (fun t ht => hts t (by simp [ht])) r0 (fun x hx => hlt x (by simp [hx])) (fun x hx => hsp x (by simp [hx])))

/-- A LAW: it returned true, nothing that was there has turned. -/
theorem law_post (hl : laidOutB P = true) {f : Func} {s : ChangeSpec} {T : TypeId} {W W' : World} {args : Array Value} {ds : List (DataW H)} {before : List MemPlace}
    (hvars : s.vars = []) (hrt : f.resultTypes = #[T]) (hT : P.underlying T = some .bool) (hts : f.params.toList.all (fun t => P.readableRec t && decide (t < P.types.size)) = true)
    (hW : DataW.Whole enc P f.params.toList s.vars false W args.toList ds [] before) (hA : DataW.TrodAll enc P W 0 (fun _ => true) true f.params.toList args.toList ds before)
    (e1 : (s.fn H (ds ++ [])).results = [.lit (.bool true)]) (e2 : (s.fn H (ds ++ [])).args = ds) (e3 : (s.fn H (ds ++ [])).vars = []) (hb : Below W.heap.size W W') :
    s.post enc P f false true false false W args (.bool true) W' := by
  have hlt : ∀ x ∈ before, x.block < W.heap.size := fun x hx => hW.lt x hx
  refine post_of_below (pa := before) (pv := []) hW ?_ ?_ ?_ (by simp) hb ?_
  · intro b sp hd
    rw [e1, hrt]
    exact trodAll_cons_mk (shut_bool hT true) trodAll_mk0
  · intro sp hsp
    rw [e2]
    exact trodAll_keep hl hb sp _ _ _ _ (fun t ht => by simpa using List.all_eq_true.1 hts t ht) hA hlt hsp
  · intro sp hsp
    rw [e3, hvars]
    rfl
  · exact ok_one hrt rfl (okWide_bool_mk hT true)
end
end Go.Proofs.YtljekaadbabhkaaDoor
/- Readers of steps. -/
namespace Go.Proofs.YtljekaadbabhkaaDoor.Am
open Go.RowKit Go.ChangeShapes Go.WideShapes Go.Deep Go.Joins
section
variable {H : Type} {enc : TypeId × Value → H} {w : World} {base : Nat} {spare : Nat → Bool} {held : Bool}
theorem opens_conv {P : Program} {t : TypeId} {α β : Type} {en : α → List AV} {en2 : β → List AV} {R : α → Prop} {R2 : β → Prop} (f : α → β) (h : Opens enc P w base spare held t en R) (he : ∀ a, en2 (f a) = en a) (hR : ∀ a, R a → R2 (f a)) : Opens enc P w base spare held t en2 R2 := by
  intro fuel cs x hx hs
  obtain ⟨a, ha, hc⟩ := h fuel cs x hx hs
  exact ⟨f a, hR a ha, by rw [he]; exact hc⟩
theorem opens_str2 {P : Program} {t : TypeId} (ht : P.underlying t = some .string) : Opens enc P w base spare held t (fun s : ByteArray => [.c (.string s)]) (fun s => s.size ≤ 140737488355328) := by
  intro fuel cs x h hsz
  obtain ⟨s, rfl, rfl, -⟩ := DataW.trod_string ht h
  refine ⟨s, ?_, cells_one1 (.c _) rfl (.c _)⟩
  have h1 : s.data.toList.length ≤ 140737488355328 := Nat.le_trans (hsz s.data.toList.length (List.mem_singleton.2 rfl)) (by decide)
  rw [Array.length_toList] at h1
  exact h1
abbrev StrsR (l : List ByteArray) : Prop := l.length * 16 ≤ 140737488355328 ∧ ∀ s ∈ l, s.size ≤ 140737488355328
abbrev StepR (x : GStep) : Prop := (Lit.int .i64 x.At).wf = true ∧ x.Name.size ≤ 140737488355328 ∧ StrsR x.Args
abbrev StepsR (l : List GStep) : Prop := l.length * 48 ≤ 140737488355328 ∧ ∀ x ∈ l, StepR x
set_option maxRecDepth 100000 in
theorem oStrs : Opens enc Tryd.prog w base spare held 35 (fun l : List ByteArray => [.sl 1 (l.map cS)]) StrsR :=
  opens_slice Tryd.underlying35 (by kernel_rfl) (by kernel_rfl) (by decide) (by decide) (opens_str2 Tryd.underlying9)
set_option maxRecDepth 100000 in
theorem oStep : Opens enc Tryd.prog w base spare held 37 cGStep StepR :=
  opens_conv (fun p : Int × (ByteArray × List ByteArray) => { At := p.1, Name := p.2.1, Args := p.2.2 : GStep })
    (opens_struct Tryd.underlying37 (opensF_cons (off' := 1) (en := fun z : Int => [AV.c (.int .i64 z)]) (R := fun z : Int => (Lit.int .i64 z).wf = true) (en' := fun p : ByteArray × List ByteArray => [AV.c (.string p.1)] ++ [AV.sl 1 (p.2.map cS)]) (R' := fun p : ByteArray × List ByteArray => p.1.size ≤ 140737488355328 ∧ StrsR p.2) rfl (by kernel_rfl) (opens_int Tryd.underlying3)
      (opensF_cons (off' := 2) (en := fun s : ByteArray => [AV.c (.string s)]) (R := fun s => s.size ≤ 140737488355328) (en' := fun l : List ByteArray => [AV.sl 1 (l.map cS)]) (R' := StrsR) rfl (by kernel_rfl) (opens_str2 Tryd.underlying9) (opensF_last rfl (by kernel_rfl) oStrs))))
    (fun _ => rfl) (fun _ h => h)
set_option maxRecDepth 100000 in
theorem oSteps : Opens enc Tryd.prog w base spare held 23 (fun l : List GStep => [.sl 3 (l.map cGStep)]) StepsR :=
  opens_slice Tryd.underlying23 (by kernel_rfl) (by kernel_rfl) (by decide) (by decide) oStep
/-- an argument of one cell -/
theorem arg_one {P : Program} {t : TypeId} {α : Type} {y : α → AV} {R : α → Prop} {v : Value} {d : DataW H} {p : List MemPlace} (hv : v.cells = #[v]) (ho : Opens enc P w base spare held t (fun a => [y a]) R) (h : DataW.Trod enc P w base spare held t v d p) (hs : Sized P t d) :
    ∃ a, R a ∧ RV w nov mZ (y a) v := by
  obtain ⟨fuel, hf⟩ := h
  rw [hv] at hf
  obtain ⟨a, ha, hc⟩ := ho fuel _ _ hf hs
  exact ⟨a, ha, one_rv hc⟩
end
theorem StepsR.small {l : List GStep} (h : StepsR l) : SmallS l := ⟨h.1, fun x hx => (h.2 x hx).2.2.1⟩
end Go.Proofs.YtljekaadbabhkaaDoor.Am
/- stratagemlaw13.PlanfileSorts returns true for every input. No condition beyond the card's own. -/
namespace Go.Proofs.YtljekaadbabhkaaDoor.rowSorts
open Go.ChangeShapes Go.WideShapes Go.ChangeAt Go.RowKit Am

set_option maxRecDepth 100000 in
theorem contract (H : Type) (enc : TypeId × Value → H) (W : World) (base : Nat) (args : Array Value) (ds gs : List (DataW H)) (before : List MemPlace)
    (hval : ∀ (j : Nat) t v, Tryd.f4.params[j]? = some t → args[j]? = some v → Value.okWide Tryd.prog W .any base t v)
    (hW : DataW.Whole enc Tryd.prog Tryd.f4.params.toList Rows.planfileSortsSpec.vars false W args.toList ds gs before) (hL : laidMetH Tryd.prog Rows.planfileSortsRow.laid W)
    (hsz : (DataW.weightsEach Tryd.prog (Tryd.f4.params.toList ++ (OpenSpec.ofChange Rows.planfileSortsSpec).bare.plain.varTypes Tryd.prog) (ds ++ gs)).all (· ≤ reachBytes) = true) (hsh : W.ShapedOpen Tryd.prog) :
    Calls Tryd.prog 4 args W fun e W' => ∃ v, e = .returned v ∧ Rows.planfileSortsSpec.post enc Tryd.prog Tryd.f4 false true false false W args v W' := by
  have hW' := hW
  obtain ⟨p, q, hA0, hV, rfl, hfz, hnd⟩ := hW
  have hA : DataW.TrodAll enc Tryd.prog W 0 (fun _ => true) true Tryd.f4.params.toList args.toList ds p := hA0
  rw [Tryd.params4] at hA hval
  obtain ⟨v0, vs0, d0, ds0, p0, q0, hargs, rfl, rfl, h0, r0⟩ := trodAll_cons hA
  obtain ⟨rfl, rfl, rfl⟩ := trodAll_nil r0
  obtain rfl : args = #[v0] := Array.ext' hargs
  obtain ⟨rfl, rfl⟩ := trodVars_none hV
  simp only [List.append_nil] at hW' hA0 hsz
  rw [Tryd.params4] at hsz
  obtain ⟨a0, len0, cap0, rfl⟩ := okWide_slice Tryd.underlying23 (hval 0 23 v0 rfl rfl)
  obtain ⟨l, hl, k0⟩ := arg_one rfl oSteps h0 (sized_arg hsz (j := 0) rfl rfl)
  refine (law_of (A_l13_PlanfileSorts 20000000000000 l (sorts_true l hl.small)) ⟨trivial, Tryd.laysM146.s1_3 W hsh⟩ rfl (fun j x v hx hv => ?_)).mono fun e W' ⟨he, hb⟩ => ?_
  · match j, hx, hv with
    | 0, hx, hv => simp at hx hv; subst hx hv; exact k0
    | j + 1, hx, hv => simp at hx
  · subst he
    exact ⟨_, rfl, law_post laidOut rfl (by kernel_rfl) Tryd.underlying4 (by kernel_rfl) hW' hA0 rfl rfl rfl hb⟩
theorem laid_met (os : Os) : laidMet Tryd.prog Rows.planfileSortsRow.laid ((laidWorld5 os).forCall (fun _ _ => 0) ⟨#[], #[.slice none 0 0], []⟩).memory :=
  laidMet_of_run' 8 (by kernel_rfl) (by kernel_rfl)
theorem reads (os : Os) {H : Type} (enc : TypeId × Value → H) : ∃ places, DataW.whole enc Tryd.prog ((laidWorld5 os).forCall (fun _ _ => 0) ⟨#[], #[.slice none 0 0], []⟩).memory Tryd.f4.params.toList Rows.planfileSortsSpec.vars false (#[.slice none 0 0] : Array Value).toList 8 = some ([.nil], [], places) :=
  ⟨[], by kernel_rfl⟩

set_option maxRecDepth 100000 in
theorem lifted (os : Os) (started : os.Started) (H : Type) (enc : TypeId × Value → H) (F : Stop.Interp) :
    ReturnsInHanded {} Tryd.checked os 4 .any ((OpenSpec.ofChange Rows.planfileSortsSpec).preRow enc Tryd.prog Tryd.f4 Rows.planfileSortsRow.domain false Rows.planfileSortsRow.laid) (((OpenSpec.ofChange Rows.planfileSortsSpec).at F).post enc Tryd.prog Tryd.f4 false true false false) := by
  obtain ⟨places, hx⟩ := reads os enc
  refine returnsInHanded_of_row (C := Tryd.checked) (s := OpenSpec.ofChange Rows.planfileSortsSpec) own started (by kernel_rfl) Tryd.func4
    (witness_row_at (enc := enc) (C := Tryd.checked) false (laidWorld5 os) #[.slice none 0 0] rfl (by kernel_rfl) (by kernel_rfl) (by kernel_rfl)
      (OpenSpec.preRow_of_cond 8 hx (by kernel_rfl) (fun k hk => by cases hk) (by kernel_rfl) (laid_met os))) ?_
  intro W base args ds gs before hval hW _ _ hsz hL hsh _
  exact contract H enc W base args ds gs before hval hW hL hsz hsh

theorem said : Rows.PlanfileSortsSaid :=
  OpenClaim.holds_of_cond 4 Tryd.f4 rfl rfl rfl rfl rfl rfl rfl ⟨rfl, rfl, rfl, rfl, rfl⟩ rfl rfl rfl rfl rfl (by kernel_rfl) Tryd.func4 (by kernel_rfl)
    (of_decide_eq_true (by kernel_rfl)) (by unfold Func.isWrapper; first | (rw [if_pos (by decide +kernel)]; kernel_rfl) | (rw [if_neg (by decide +kernel)]; exact ⟨rfl, rfl⟩))
    (fun os started H enc _ F => by rw [OpenClaim.pre_eq_preRow]; exact lifted os started H enc F)

theorem plain (f : FuncId) (fn : Func) (hf : Tryd.pinned.checked.prog.funcNamed Rows.planfileSortsRow.func = some f) (hfn : Tryd.pinned.checked.prog.funcs[f]? = some fn) :
    true = Tryd.pinned.checked.prog.looks [] ∧ ∀ (j : Nat) t, fn.params[j]? = some t → Tryd.pinned.checked.prog.wantsStandIn t = false := by
  obtain rfl : f = 4 := Option.some.inj ((show Tryd.prog.funcNamed Rows.planfileSortsRow.func = some 4 by kernel_rfl).symm.trans hf) |>.symm
  obtain rfl : fn = Tryd.f4 := (Option.some.inj (Tryd.func4.symm.trans hfn)).symm
  refine ⟨by kernel_rfl, fun j t ht => ?_⟩
  have hall : Tryd.f4.params.toList.all (fun t => !Tryd.prog.wantsStandIn t) = true := by kernel_rfl
  have := List.all_eq_true.1 hall t (by simpa using Array.mem_of_getElem? ht)
  have h2 : Tryd.prog.wantsStandIn t = false := by simpa using this
  exact h2

/-- THE CARD: stratagemlaw13's statement holds. -/
theorem card : Rows.PlanfileSortsCardSaid :=
  Claim7.holds_tied_plain_at .later [] _ _ _ _ said (fun _ h => by cases h) (by kernel_rfl) (fun _ h => by cases h) planfileSorts_row_tie rfl ⟨rfl, rfl⟩ (by kernel_rfl) rfl plain (by kernel_rfl)
end Go.Proofs.YtljekaadbabhkaaDoor.rowSorts
