/- stratagemlaw31.CheckerPerfect returns true for every input. No condition beyond the row's own. -/
import Derived.Test.YtcpajbglcgbolaaGreatB6
import Derived.Test.YtcpajbglcgbolaaGreatB4
import Derived.Test.YtcpajbglcgbolaaGreatB5
import Derived.Test.YtcpajbglcgbolaaGreatB1
import Derived.Deep.Slices
import Derived.Deep.Fields
import Derived.ChangeSame
import Derived.SizedLaws
import Derived.Lib.SmallJoins
import Derived.Test.YtcpajbglcgbolaaGreatB2
import Derived.Below
import Derived.OpenShut
import Derived.Carry
import Derived.Test.YtcpajbglcgbolaaGreatRows
import Derived.Deep.DeepHandedRow
import Derived.Lib.LaidTab
/- Plain: stratagembase.Distances at its end: no way back makes a distance less. -/
namespace Go.Proofs.YtcpajbglcgbolaaGreat.Am
open Go.RowKit
theorem ext_at (u : List Int) : ∀ (m : Nat) (j : Int) (x : Nat) (z : List Int), (extF u m j)[x]? = some z → x < m ∧ z = u ++ [j + (x : Int)]
  | 0, j, x, z, h => by simp [extF] at h
  | m + 1, j, 0, z, h => by
    simp only [extF, List.getElem?_cons_zero, Option.some.injEq] at h
    exact ⟨by omega, by rw [← h]; simp⟩
  | m + 1, j, x + 1, z, h => by
    rw [extF, List.getElem?_cons_succ] at h
    obtain ⟨h1, h2⟩ := ext_at u m (j + 1) x z h
    refine ⟨by omega, ?_⟩
    rw [h2, show j + 1 + (x : Int) = j + ((x + 1 : Nat) : Int) from by omega]
theorem flat_inv (m : Nat) : ∀ (out : List (List Int)) (j : Nat) (z : List Int), (out.flatMap fun s => extF s m 0)[j]? = some z → ∃ (i x : Nat) (s : List Int), j = i * m + x ∧ x < m ∧ out[i]? = some s ∧ z = s ++ [(x : Int)]
  | [], j, z, h => by simp at h
  | u :: out, j, z, h => by
    rw [List.flatMap_cons] at h
    by_cases hj : j < (extF u m 0).length
    · rw [List.getElem?_append_left hj] at h
      obtain ⟨h1, h2⟩ := ext_at u m 0 j z h
      exact ⟨0, j, u, by omega, h1, rfl, by rw [h2]; congr 2; omega⟩
    · rw [List.getElem?_append_right (by omega), extF_len] at h
      rw [extF_len] at hj
      obtain ⟨i, x, s, e1, e2, e3, e4⟩ := flat_inv m out (j - m) z h
      exact ⟨i + 1, x, s, by rw [Nat.add_mul]; omega, e2, by rw [List.getElem?_cons_succ]; exact e3, e4⟩
theorem rank_inv : ∀ (r : List Int) (out : List (List Int)) (k : Nat) (z : List Int), (∀ y ∈ r, 1 ≤ y) → (statesG r out)[k]? = some z → ∃ (i : Nat) (s u : List Int), out[i]? = some s ∧ z = s ++ u ∧ stateF r u = true ∧ rankF r u i = (k : Int)
  | [], out, k, z, _, h => ⟨k, z, [], h, (List.append_nil z).symm, rfl, rfl⟩
  | y :: r, out, k, z, hy, h => by
    rw [statesG] at h
    obtain ⟨j, s, u, h1, h2, h3, h4⟩ := rank_inv r _ k z (fun x hx => hy x (List.mem_cons_of_mem _ hx)) h
    obtain ⟨i, x, s0, e1, e2, e3, e4⟩ := flat_inv y.toNat out j s h1
    have hy0 := hy y (List.mem_cons_self ..)
    refine ⟨i, s0, (x : Int) :: u, e3, by rw [h2, e4, List.append_assoc]; rfl, ?_, ?_⟩
    · rw [stateF, Bool.and_eq_true, decide_eq_true_iff]
      exact ⟨by omega, h3⟩
    · rw [rankF, ← h4, e1, Int.natCast_add, Int.natCast_mul, show ((y.toNat : Nat) : Int) = y from by omega]
/-- each state has one place -/
theorem place_one {t : GTask} (hgood : goodF t = true) {i j : Nat} {s : List Int} (hi : (allF t)[i]? = some s) (hj : (allF t)[j]? = some s) : i = j := by
  have key : ∀ k : Nat, (allF t)[k]? = some s → rankF t.Vars s 0 = (k : Int) := fun k hk => by
    obtain ⟨i0, s0, u, h1, h2, -, h4⟩ := rank_inv t.Vars [[]] k s (fun y hy => ((good_dom hgood).dom y hy).1) hk
    cases i0 with
    | zero =>
      simp only [List.getElem?_cons_zero, Option.some.injEq] at h1
      subst h1
      rw [List.nil_append] at h2
      subst h2
      exact h4
    | succ i0 => simp at h1
  have h1 := key i hi
  have h2 := key j hj
  omega
/-- the way of an operator from a state -/
def EdgI (t : GTask) (i q : Nat) (o : GOp) (s : List Int) (e : GEdge) : Prop := ∃ k : Nat, e = { From := (i : Int), Op := (q : Int), To := (k : Int) } ∧ (allF t)[k]? = some (nextF s o)
theorem edges1c {t : GTask} (hsm : smallF t = true) (i : Nat) (s : List Int) (hi : (allF t)[i]? = some s) : ∀ (l : List GOp) (m j : Nat) (v : List GEdge), t.Ops.drop j = l → l.length = m → v.length + m ≤ 100000 →
    ∃ v', Rn (M_b_Edges_L1_B t i s) (M_b_Edges_L1_E t i s) m j v = some v' ∧ v'.length ≤ v.length + m ∧ (∀ e ∈ v, e ∈ v') ∧ ∀ q o, j ≤ q → t.Ops[q]? = some o → holdsF s o.Pre = true → ∃ e ∈ v', EdgI t i q o s e
  | [], m, j, v, hdr, hm, _ => by
    subst hm
    refine ⟨v, rfl, Nat.le_refl _, fun _ h => h, fun q o hq ho _ => ?_⟩
    have hlt := (List.getElem?_eq_some_iff.1 ho).1
    have hn := congrArg List.length hdr
    simp only [List.length_drop, List.length_nil] at hn
    omega
  | o :: os, m, j, v, hdr, hm, hlen => by
    have hgood := (small_good hsm).1
    obtain ⟨hj, hd', hlt⟩ := drop_cons hdr
    obtain ⟨m, rfl⟩ : ∃ k, m = k + 1 := ⟨os.length, hm.symm⟩
    have hst := (allF_mem t s).1 (List.mem_of_getElem? hi)
    have hm' : os.length = m := by simpa using hm
    rw [Rn, M_b_Edges_L1_B, apply_eq t hgood s (stateF_st hst) j o hj]
    by_cases hp : holdsF s o.Pre = true
    · obtain ⟨k, e1, e2⟩ := rank_eq hsm (next_state hgood hst (List.mem_of_getElem? hj))
      rw [if_pos hp, ob2_some, sel_tt, e1, ob1_some, grd_t (by omega)]
      obtain ⟨v', h1, h2, h3, h4⟩ := edges1c hsm i s hi os m (j + 1) (v ++ [{ From := (i : Int), Op := (j : Int), To := (k : Int) }]) hd' hm' (by simp; omega)
      refine ⟨v', h1, by simp at h2; omega, fun e he => h3 e (List.mem_append.2 (.inl he)), fun q u hq hu hpu => ?_⟩
      rcases Nat.lt_or_ge j q with hjq | hjq
      · exact h4 q u (by omega) hu hpu
      · obtain rfl : q = j := by omega
        rw [hj] at hu
        injection hu with hu
        subst hu
        exact ⟨_, h3 _ (List.mem_append.2 (.inr (List.mem_singleton.2 rfl))), k, rfl, e2⟩
    · rw [if_neg hp, ob2_some, sel_ff]
      obtain ⟨v', h1, h2, h3, h4⟩ := edges1c hsm i s hi os m (j + 1) v hd' hm' (by omega)
      refine ⟨v', h1, by omega, h3, fun q u hq hu hpu => ?_⟩
      rcases Nat.lt_or_ge j q with hjq | hjq
      · exact h4 q u (by omega) hu hpu
      · obtain rfl : q = j := by omega
        rw [hj] at hu
        injection hu with hu
        subst hu
        exact absurd hpu hp
theorem edges2c {t : GTask} (hsm : smallF t = true) : ∀ (r : List (List Int)) (i : Nat) (v : List GEdge), (allF t).drop i = r → v.length + r.length * 20 ≤ 100000 →
    ∃ v', Rg (M_b_Edges_L2_B t (allF t)) (M_b_Edges_L2_E t (allF t)) r i v = some v' ∧ (∀ e ∈ v, e ∈ v') ∧ ∀ k s q o, i ≤ k → (allF t)[k]? = some s → t.Ops[q]? = some o → holdsF s o.Pre = true → ∃ e ∈ v', EdgI t k q o s e
  | [], i, v, hdr, hl => by
    refine ⟨v, by rw [Rg, M_b_Edges_L2_E, grd_t (by simp at hl; omega)], fun _ h => h, fun k s q o hk hs _ _ => ?_⟩
    have hlt := (List.getElem?_eq_some_iff.1 hs).1
    have hn := congrArg List.length hdr
    simp only [List.length_drop, List.length_nil] at hn
    omega
  | s :: r, i, v, hdr, hl => by
    obtain ⟨hi, hd', hlt⟩ := drop_cons hdr
    have hops := (small_good hsm).2.2
    rw [List.length_cons] at hl
    rw [Rg, M_b_Edges_L2_B, ixv, M_b_Edges_L1_eq t i s v (m := t.Ops.length) (by rw [List.length_map]) (by omega)]
    obtain ⟨v1, h1, h2, h3, h4⟩ := edges1c hsm i s hi t.Ops t.Ops.length 0 v rfl rfl (by omega)
    have h1' : Rn (M_b_Edges_L1_B t i s) (M_b_Edges_L1_E t i s) t.Ops.length 0 v = some v1 := h1
    rw [h1', ob1_some]
    obtain ⟨v', g1, g2, g3⟩ := edges2c hsm r (i + 1) v1 hd' (by omega)
    refine ⟨v', g1, fun e he => g2 e (h3 e he), fun k u q o hk hu ho hp => ?_⟩
    rcases Nat.lt_or_ge i k with hik | hik
    · exact g3 k u q o (by omega) hu ho hp
    · obtain rfl : k = i := by omega
      rw [hi] at hu
      injection hu with hu
      subst hu
      obtain ⟨e, he, hx⟩ := h4 q o (Nat.zero_le _) ho hp
      exact ⟨e, g2 e he, hx⟩
theorem edges_all {t : GTask} (hsm : smallF t = true) : ∃ es, M_b_Edges t = some es ∧ es.length ≤ 100000 ∧ (∀ e ∈ es, EdgP t e) ∧ ∀ k s q o, (allF t)[k]? = some s → t.Ops[q]? = some o → holdsF s o.Pre = true → ∃ e ∈ es, EdgI t k q o s e := by
  have hal := allF_len t hsm
  obtain ⟨es, h1, h2, h3⟩ := edges_eq hsm
  obtain ⟨es', g1, -, g3⟩ := edges2c hsm (allF t) 0 [] rfl (by simp; omega)
  have he : M_b_Edges t = some es' := by
    rw [M_b_Edges, states_eq t hsm, ob1_some, M_b_Edges_L2_eq t (allF t) [] (by omega)]
    exact g1
  rw [h1] at he
  obtain rfl := Option.some.inj he
  exact ⟨es, h1, h2, h3, fun k s q o hk ho hp => g3 k s q o (Nat.zero_le _) hk ho hp⟩
/-- how many distances are finite -/
def finN (d : List Int) : Nat := (d.filter fun x => decide (x ≠ infD)).length
theorem finN_set : ∀ (d : List Int) (a : Nat) (y v : Int), d[a]? = some y → v ≠ infD → finN (d.set a v) = finN d + (if y = infD then 1 else 0)
  | [], a, y, v, h, _ => by simp at h
  | z :: d, 0, y, v, h, hv => by
    simp only [List.getElem?_cons_zero, Option.some.injEq] at h
    subst h
    unfold finN
    rw [List.set_cons_zero, List.filter_cons, List.filter_cons, if_pos (decide_eq_true hv)]
    by_cases hz : z = infD
    · rw [if_neg (by simp [hz]), if_pos hz, List.length_cons]
    · rw [if_pos (decide_eq_true hz), if_neg hz, List.length_cons, List.length_cons, Nat.add_zero]
  | z :: d, a + 1, y, v, h, hv => by
    rw [List.getElem?_cons_succ] at h
    have ih := finN_set d a y v h hv
    unfold finN at ih ⊢
    rw [List.set_cons_succ, List.filter_cons, List.filter_cons]
    split
    · rw [List.length_cons, List.length_cons, ih]; omega
    · exact ih
theorem finN_le (d : List Int) : finN d ≤ d.length := List.length_filter_le _ _
/-- goal states have distance 0 -/
structure DG (t : GTask) (d : List Int) : Prop where
  len : d.length = (allF t).length
  ok : ∀ (i : Nat) (s : List Int) (x : Int), (allF t)[i]? = some s → d[i]? = some x → 0 ≤ x ∧ x ≤ infD ∧ (holdsF s t.Goal = true → x = 0)
  bnd : ∀ x ∈ d, x ≠ infD → x ≤ 1048576 * (finN d : Int)
theorem DG.all {t : GTask} {d : List Int} (h : DG t d) : ∀ x ∈ d, 0 ≤ x ∧ x ≤ infD := fun x hx => by
  obtain ⟨i, hi⟩ := List.getElem?_of_mem hx
  have hlt := (List.getElem?_eq_some_iff.1 hi).1
  have hs : (allF t)[i]? = some ((allF t)[i]'(by rw [← h.len]; exact hlt)) := List.getElem?_eq_getElem _
  obtain ⟨h1, h2, -⟩ := h.ok i _ x hs hi
  exact ⟨h1, h2⟩
/-- no way makes a distance less -/
def Calm (t : GTask) (d : List Int) (e : GEdge) : Prop := ∀ (a b q : Nat) (o : GOp) (x y : Int), e = { From := (a : Int), Op := (q : Int), To := (b : Int) } → t.Ops[q]? = some o → d[b]? = some x → d[a]? = some y → x < infD → y ≤ x + o.Cost
theorem dis2c {t : GTask} (hgood : goodF t = true) (es : List GEdge) : ∀ (r : List GEdge) (i : Int) (b : Bool) (d : List Int), (∀ e ∈ r, EdgP t e) → DG t d →
    ∃ b' d', Rg (M_b_Distances_L2_B t es) (M_b_Distances_L2_E t es) r i (b, d) = some (b', d') ∧ DG t d' ∧ ((b' = b ∧ d' = d ∧ ∀ e ∈ r, Calm t d e) ∨ (b' = true ∧ d'.sum < d.sum))
  | [], i, b, d, _, hd => ⟨b, d, rfl, hd, .inl ⟨rfl, rfl, fun e he => by cases he⟩⟩
  | e :: r, i, b, d, he, hd => by
    have her : ∀ e ∈ r, EdgP t e := fun u hu => he u (List.mem_cons_of_mem _ hu)
    obtain ⟨a, bb, q, s, o, e1, e2, e3, h1, h2, h3, h4⟩ := (he e (List.mem_cons_self ..)).ex
    obtain ⟨F, O, T⟩ := e
    simp only at e1 e2 e3
    subst e1 e2 e3
    have ho := List.mem_of_getElem? h3
    have hcost := good_cost hgood ho
    have hla : a < d.length := by rw [hd.len]; exact (List.getElem?_eq_some_iff.1 h1).1
    have hlb : bb < d.length := by rw [hd.len]; exact (List.getElem?_eq_some_iff.1 h2).1
    obtain ⟨x, hx⟩ : ∃ x, d[bb]? = some x := ⟨_, List.getElem?_eq_getElem hlb⟩
    obtain ⟨y, hy⟩ : ∃ y, d[a]? = some y := ⟨_, List.getElem?_eq_getElem hla⟩
    obtain ⟨x0, x1, -⟩ := hd.ok bb _ x h2 hx
    obtain ⟨y0, y1, yq⟩ := hd.ok a s y h1 hy
    have hcalm : (x < infD → y ≤ x + o.Cost) → Calm t d { From := (a : Int), Op := (q : Int), To := (bb : Int) } := fun hh a' b' q' o' x' y' e ho' hx' hy' hlt => by
      simp only [GEdge.mk.injEq] at e
      obtain ⟨ea, eq, eb⟩ := e
      obtain rfl : a' = a := by omega
      obtain rfl : b' = bb := by omega
      obtain rfl : q' = q := by omega
      rw [h3] at ho'; rw [hx] at hx'; rw [hy] at hy'
      injection ho' with ho'; injection hx' with hx'; injection hy' with hy'
      subst ho' hx' hy'
      exact hh hlt
    unfold infD at x1 y1 hcalm
    have hw : IntKind.i64.wrap (x + o.Cost) = x + o.Cost := wrap_eq (by omega) (by omega)
    have hcons : (x < 1125899906842624 → y ≤ x + o.Cost) → ∃ b' d', Rg (M_b_Distances_L2_B t es) (M_b_Distances_L2_E t es) r (i + 1) (b, d) = some (b', d') ∧ DG t d' ∧ ((b' = b ∧ d' = d ∧ ∀ e ∈ ({ From := (a : Int), Op := (q : Int), To := (bb : Int) } : GEdge) :: r, Calm t d e) ∨ (b' = true ∧ d'.sum < d.sum)) := fun hh => by
      obtain ⟨b', d', g1, g2, g3⟩ := dis2c hgood es r (i + 1) b d her hd
      refine ⟨b', d', g1, g2, g3.imp (fun ⟨q1, q2, q3⟩ => ⟨q1, q2, fun e he => ?_⟩) id⟩
      rcases List.mem_cons.1 he with rfl | he
      · exact hcalm hh
      · exact q3 e he
    rw [Rg, M_b_Distances_L2_B]
    simp only [ixv, ix_at h3, ob1_some, Int.toNat_natCast, ixn_at hx, ixn_at hy, sel_dec]
    by_cases hlt : x < 1125899906842624
    · rw [if_pos hlt, grd_t (by omega), grd_t (by omega), grd_t (by omega), grd_t (by omega), ob1_some, hw]
      by_cases hr : x + o.Cost < y
      · rw [decide_eq_true hr, sel_tt, grd_t (by omega), grd_t (by omega), grd_t (by omega), grd_t (by omega)]
        have hd1 : DG t (d.set a (x + o.Cost)) := by
          have hbx := hd.bnd x (List.mem_of_getElem? hx) (by unfold infD; omega)
          have hfin := finN_set d a y (x + o.Cost) hy (by unfold infD; omega)
          refine ⟨by rw [List.length_set]; exact hd.len, fun i s' z hs' hz => ?_, fun z hz hne => ?_⟩
          rotate_left
          · rw [hfin]
            rcases List.mem_or_eq_of_mem_set hz with hz | rfl
            · have := hd.bnd z hz hne
              split <;> omega
            · by_cases hyi : y = infD
              · rw [if_pos hyi]; omega
              · have := hd.bnd y (List.mem_of_getElem? hy) hyi
                rw [if_neg hyi]; omega
          by_cases hai : a = i
          · subst hai
            rw [List.getElem?_set_self hla] at hz
            injection hz with hz
            rw [h1] at hs'
            injection hs' with hs'
            subst hz hs'
            exact ⟨by omega, by unfold infD; omega, fun hg => by have := yq hg; omega⟩
          · rw [List.getElem?_set_ne hai] at hz
            exact hd.ok i s' z hs' hz
        obtain ⟨b', d', g1, g2, g3⟩ := dis2c hgood es r (i + 1) true _ her hd1
        have hsum := sum_set (x + o.Cost) d a y hy
        refine ⟨b', d', g1, g2, .inr ?_⟩
        rcases g3 with ⟨g3, g4, -⟩ | ⟨g3, g4⟩
        · exact ⟨g3, by rw [g4, hsum]; omega⟩
        · exact ⟨g3, by rw [hsum] at g4; omega⟩
      · rw [decide_eq_false hr, sel_ff]
        exact hcons (fun _ => by omega)
    · rw [if_neg hlt, grd_t (by omega), grd_t (by omega), ob1_some, sel_ff]
      exact hcons (fun h => absurd h hlt)
theorem dis3c {t : GTask} (hgood : goodF t = true) (es : List GEdge) (hes : ∀ e ∈ es, EdgP t e) (hlen : es.length ≤ 100000) (hal : (allF t).length ≤ 512) : ∀ (S k : Nat) (d : List Int), DG t d → d.sum ≤ S → S + 2 ≤ k → ∃ d', M_b_Distances_L3 t es k true d = some d' ∧ DG t d' ∧ ∀ e ∈ es, Calm t d' e := by
  intro S
  induction S with
  | zero =>
    intro k d hd hs hk
    obtain ⟨k, rfl⟩ : ∃ j, k = j + 2 := ⟨k - 2, by omega⟩
    obtain ⟨b', d', g1, g2, g3⟩ := dis2c hgood es es 0 false d hes hd
    have hpos := sum_pos d' (fun x hx => (g2.all x hx).1)
    rcases g3 with ⟨rfl, rfl, g5⟩ | ⟨-, g4⟩
    · refine ⟨d', ?_, g2, g5⟩
      have hl := g2.len
      rw [M_b_Distances_L3, sel_tt, M_b_Distances_L2_eq t es false d' (by omega), g1, ob1_some]
      simp only
      rw [M_b_Distances_L3, sel_ff, grd_t (by omega)]
    · omega
  | succ S ih =>
    intro k d hd hs hk
    obtain ⟨k, rfl⟩ : ∃ j, k = j + 2 := ⟨k - 2, by omega⟩
    obtain ⟨b', d', g1, g2, g3⟩ := dis2c hgood es es 0 false d hes hd
    rw [M_b_Distances_L3, sel_tt, M_b_Distances_L2_eq t es false d (by omega), g1, ob1_some]
    simp only
    rcases g3 with ⟨rfl, rfl, g5⟩ | ⟨rfl, g4⟩
    · have hl := g2.len
      exact ⟨d', by rw [M_b_Distances_L3, sel_ff, grd_t (by omega)], g2, g5⟩
    · exact ih (k + 1) d' g2 (by omega) (by omega)
/-- the distances, at the end -/
structure DFix (t : GTask) (d : List Int) : Prop where
  g : DG t d
  step : ∀ (i k : Nat) (s : List Int) (o : GOp) (x y : Int), (allF t)[i]? = some s → o ∈ t.Ops → holdsF s o.Pre = true → (allF t)[k]? = some (nextF s o) → d[k]? = some x → d[i]? = some y → x < infD → y ≤ x + o.Cost
theorem fix_eq {t : GTask} (hsm : smallF t = true) (g : Nat) (hg : 1000000000000000000 ≤ g) (u : List Int) : ∃ d, M_b_Distances g t u = some d ∧ DFix t d := by
  have hgood := (small_good hsm).1
  have hal := allF_len t hsm
  obtain ⟨es, h1, h2, h3, h4⟩ := edges_all hsm
  have hd0 : DG t ((allF t).map fun s => if holdsF s t.Goal = true then 0 else infD) := by
    refine ⟨List.length_map _, fun i s x hs hx => ?_, fun x hx hne => ?_⟩
    · rw [List.getElem?_map, hs] at hx
      simp only [Option.map_some, Option.some.injEq] at hx
      subst hx
      by_cases hh : holdsF s t.Goal = true
      · rw [if_pos hh]; exact ⟨by decide, by decide, fun _ => rfl⟩
      · rw [if_neg hh]; exact ⟨by decide, by decide, fun h => absurd h hh⟩
    · obtain ⟨s, -, rfl⟩ := List.mem_map.1 hx
      by_cases hh : holdsF s t.Goal = true
      · rw [if_pos hh]; omega
      · rw [if_neg hh] at hne; exact absurd rfl hne
  have hsum := sum_le infD _ (fun x hx => (hd0.all x hx).2)
  rw [hd0.len] at hsum
  have hle : infD * ((allF t).length : Int) ≤ infD * 512 := Int.mul_le_mul_of_nonneg_left (by omega) (by decide)
  have hs2 : ((allF t).map fun s => if holdsF s t.Goal = true then 0 else infD).sum ≤ (576460752303423488 : Nat) := Int.le_trans hsum (Int.le_trans hle (by decide))
  obtain ⟨d, e1, e2, e3⟩ := dis3c hgood es h3 h2 hal 576460752303423488 g _ hd0 hs2 (by omega)
  refine ⟨d, ?_, e2, fun i k s o x y hi ho hp hk hx hy hlt => ?_⟩
  · have hrep : (List.replicate ((((allF t).map cL_cI).length : Int)).toNat (0 : Int)).length = (allF t).length := by rw [List.length_replicate, List.length_map, Int.toNat_natCast]
    have hd1 := dis1 hgood (allF t) 0 (List.replicate ((((allF t).map cL_cI).length : Int)).toNat 0) rfl hrep
    have hd1' : Rg (M_b_Distances_L1_B t (allF t)) (M_b_Distances_L1_E t (allF t)) (allF t) 0 (List.replicate ((((allF t).map cL_cI).length : Int)).toNat 0) = _ := hd1
    have hlm : ((allF t).map cL_cI).length = (allF t).length := List.length_map _
    rw [M_b_Distances, states_eq t hsm, ob1_some, grd_t (by omega), grd_t (by omega), M_b_Distances_L1_eq t (allF t) _ (by omega), hd1', List.take_zero, List.nil_append, ob1_some, h1, ob1_some]
    exact e1
  · obtain ⟨q, hq⟩ := List.getElem?_of_mem ho
    obtain ⟨e, he, kk, hee, hkk⟩ := h4 i s q o hi hq hp
    have := place_one hgood hk hkk
    subst this
    exact e3 e he i k q o x y hee hq hx hy hlt
end Go.Proofs.YtcpajbglcgbolaaGreat.Am
/- Models printed by my decompiler, and the proofs that the code computes them. -/
namespace Go.Proofs.YtcpajbglcgbolaaGreat.Am
open Go.RowKit
theorem ci_XDPer {p K : Prop} (k : K) (h : p := by first | rfl | exact ⟨rfl, rfl⟩ | exact BW.fr FrV.h | (refine BW.fr ?_; assumption) | (refine ⟨rfl, ?_⟩; (simp [cGTask, cI, cF, cGOp, cGEffect, cGCertificate, cN, cL_cI, take_len_map]; done)) | (refine RowK.same ?_ FrI.h; first | rfl | (simp [cGTask, cI, cF, cGOp, cGEffect, cGCertificate, cN, cL_cI, take_len_map]; done)) | (refine row_part1 ?_; (repeat (first | exact BWL.nil | exact bwll_nil | exact bw_c | exact BW.sl | exact BW.nil | exact bwll_same rfl FrI.h | refine BWL.cons ?_ ?_ | refine bwll_cons ?_ ?_ | (refine bw_own3 rfl rfl rfl FrI.h ?_ ?_ ?_) | exact BW.fr FrV.h | exact BW.fr (by assumption) | refine bw_agg ?_ | refine bw_clo ?_ | refine bw_ptr rfl rfl rfl ?_ | (refine bw_own rfl rfl rfl ?_ FrI.h ?_ ?_) | assumption | omega | rfl | (rw [List.length_map, ← List.length_append]; assumption) | (refine bwll_same ?_ FrI.h; (simp [cGTask, cI, cF, cGOp, cGEffect, cGCertificate, cN, cL_cI] <;> fail)) | (rw [List.map_set]; refine bwll_set (by first | rfl | omega | simp) ?_ ?_) | refine bwll_set (by first | rfl | omega | simp) ?_ ?_ | (rw [List.map_replicate]; refine bwll_rep ?_) | refine bwll_rep ?_ | (rw [List.map_append]; refine bwll_append ?_ ?_) | refine bwll_append ?_ ?_ | (simp [cGTask, cI, cF, cGOp, cGEffect, cGCertificate, cN, cL_cI, take_len_map] <;> fail) | (rw [List.drop_zero, List.take_of_length_le] <;> first | rfl | (simp [cGTask, cI, cF, cGOp, cGEffect, cGCertificate, cN, cL_cI] <;> fail)) | (simp; omega) | (simp only [List.length_map, List.drop_zero, List.length_cons, List.length_nil, Nat.zero_add, Nat.add_zero] at *; omega))); done) | ((repeat (first | exact BWL.nil | exact bwll_nil | exact bw_c | exact BW.sl | exact BW.nil | exact bwll_same rfl FrI.h | refine BWL.cons ?_ ?_ | refine bwll_cons ?_ ?_ | (refine bw_own3 rfl rfl rfl FrI.h ?_ ?_ ?_) | exact BW.fr FrV.h | exact BW.fr (by assumption) | refine bw_agg ?_ | refine bw_clo ?_ | refine bw_ptr rfl rfl rfl ?_ | (refine bw_own rfl rfl rfl ?_ FrI.h ?_ ?_) | assumption | omega | rfl | (rw [List.length_map, ← List.length_append]; assumption) | (refine bwll_same ?_ FrI.h; (simp [cGTask, cI, cF, cGOp, cGEffect, cGCertificate, cN, cL_cI] <;> fail)) | (rw [List.map_set]; refine bwll_set (by first | rfl | omega | simp) ?_ ?_) | refine bwll_set (by first | rfl | omega | simp) ?_ ?_ | (rw [List.map_replicate]; refine bwll_rep ?_) | refine bwll_rep ?_ | (rw [List.map_append]; refine bwll_append ?_ ?_) | refine bwll_append ?_ ?_ | (simp [cGTask, cI, cF, cGOp, cGEffect, cGCertificate, cN, cL_cI, take_len_map] <;> fail) | (rw [List.drop_zero, List.take_of_length_le] <;> first | rfl | (simp [cGTask, cI, cF, cGOp, cGEffect, cGCertificate, cN, cL_cI] <;> fail)) | (simp; omega) | (simp only [List.length_map, List.drop_zero, List.length_cons, List.length_nil, Nat.zero_add, Nat.add_zero] at *; omega))); done) | (simp [cGTask, cI, cF, cGOp, cGEffect, cGCertificate, cN, cL_cI, take_len_map]; done)) : p ∧ K := ⟨h, k⟩
theorem ca_XDPer {P : Prop} (h : P := by repeat (first | exact True.intro | refine ci_XDPer ?_)) : P := h
theorem pr_XDPer {p K : Prop} (k : K) (h : p := by first | assumption | exact Int.natCast_nonneg _ | exact Nat.le_refl _ | exact Nat.zero_le _ | omega | (simp; done) | (simp; omega)) : p ∧ K := ⟨h, k⟩
theorem pl_XDPer {p K : Prop} (k : K) (h : p := by first | rfl | exact List.length_map _ | (simp; done) | (simp; omega)) : p ∧ K := ⟨h, k⟩
theorem pe_XDPer {p K : Prop} (k : K) (h : p := by first | omega | (simp; omega) | (simp only [List.length_map, List.length_cons, List.length_nil, List.length_append]; omega) | (simp only [List.length_map, List.drop_zero, List.length_cons, List.length_nil, Nat.zero_add, Nat.add_zero] at *; omega)) : p ∧ K := ⟨h, k⟩
theorem dr_XDPer {b : Bool} {p K : Prop} (k : K) (h : b = true → p := by intro h; first | (cases h; done) | exact ⟨by kernel_rfl, by kernel_rfl⟩) : (b = true → p) ∧ K := ⟨h, k⟩
theorem cl_XDPer {C : Cx} {n : Nat} {o : Oper} {τ : Nat → AV} {η : Nat → Ent} {f : FuncId} {os : Array Operand} {ats : Array TypeId} {r : AV} {args : List AV} {K : Foot → Prop} (ho : o.op = .call ⟨.value (.func f), os, ats⟩) (hc : ACall C f args r) (k : K ⟨r, [], []⟩)
    (hd : InB n o.dst := by exact Nat.le_of_ble_eq_true rfl) (hargs : os.toList.map (evA τ) = args := by first | rfl | (simp [cGTask, cI, cF, cGOp, cGEffect, cGCertificate, cN, cL_cI]; done) | (repeat (first | exact rfl | refine cons_eq ?_ ?_ | exact sl_dt rfl))) (hfr : frs args := by repeat (first | exact trivial | exact fr1_eA _ | exact fr0_eA _ | exact fr1_fr (by assumption) | exact FrV.h | refine And.intro ?_ ?_)) (hr : fr1 r := by repeat (first | exact trivial | exact fr1_eA _ | exact fr0_eA _ | exact fr1_fr (by assumption) | exact FrV.h | refine And.intro ?_ ?_)) : ∃ f : Foot, LF C n o τ η f ∧ K f := ⟨_, lf_call ho hd hargs hc hfr hr, k⟩
def M_b_Clip (a0 : Int) (a1 : Int) (a2 : Int) : Option (Int) :=
  some (max a1 (min a0 a2))
set_option maxHeartbeats 16000000 in
set_option maxRecDepth 100000 in
theorem A_b_Clip (a0 : Int) (a1 : Int) (a2 : Int) {r1 : Int} (h : M_b_Clip a0 a1 a2 = some r1) : ACall cx 20 [.c (.int .i64 a0), .c (.int .i64 a1), .c (.int .i64 a2)] (.c (.int .i64 r1)) := by
  refine aOf Tryz.func20 rfl (by decide) rfl (Nat.le_of_ble_eq_true rfl) ?_; intro _; unfold M_b_Clip at h; refine aSq ?_; refine aRg ?_; intro _; refine dr_XDPer ?_; refine aSq ?_; refine aRg ?_; intro _; refine ⟨_, lf_min rfl (Nat.le_of_ble_eq_true rfl) rfl rfl, ?_⟩; intro _; refine ⟨_, lf_max rfl (Nat.le_of_ble_eq_true rfl) rfl rfl, ?_⟩; intro _; refine dr_XDPer ?_; refine aRt ?_; intro _; obtain rfl := inj1 h; exact ca_XDPer
def M_r31_Perfect_L1 (y154 : List Int) : Nat → Int → (List Fact) → Option (List Fact)
  | 0, _, _ => none
  | k180 + 1, v178, v179 =>
    sel (decide (v178 < ((y154.map cI).length : Int)))
     (ix y154 v178 (fun y181 =>
       grd ((v179.length + 1) * 16 ≤ 140737488355328) (M_r31_Perfect_L1 y154 k180 (IntKind.i64.wrap (v178 + 1)) (v179 ++ [(v178, y181)]))))
     (some v179)
def M_r31_Perfect_L2 (a1 : Int) (z1 : List Int) (z2 : List (List Int)) : Nat → Int → (List Nogood) → Option (GCertificate)
  | 0, _, _ => none
  | k123 + 1, v121, v122 =>
    sel (decide (v121 < ((z2.map cL_cI).length : Int)))
     (ob1 (ix z2 v121 (fun y154 =>
        ob1 (ix z1 v121 (fun y159 =>
          sel (y159 == 1125899906842624)
           (some (.inr ()))
           (sel (decide (a1 ≥ 0))
             (ix z1 v121 (fun y160 =>
               sel (decide (y160 ≥ a1))
                (some (.inr ()))
                (some (.inl (decide (y160 ≥ a1))))))
             (some (.inl false)))) : Option (Bool ⊕ Unit))
         (osum
         (fun _ => ix z1 v121 (fun y161 =>
            ob1 (sel (decide (a1 < 0))
              (some 0)
              (some y161) : Option (Int))
             (fun v162 => ob1 (M_r31_Perfect_L1 y154 ((((y154.map cI).length : Int)).toNat + 1) 0 [] : Option (List Fact))
                (fun v172 => grd ((v122.length + 1) * 32 ≤ 140737488355328) (grd (v172.length ≤ 140737488355328) (some (v122 ++ [(v172, v162)])))))))
         (fun _ => some v122))) : Option (List Nogood))
       (fun v152 => M_r31_Perfect_L2 a1 z1 z2 k123 (IntKind.i64.wrap (v121 + 1)) v152))
     (grd (v122.length ≤ 140737488355328) (some ({ Bound := a1, Nogoods := v122 : GCertificate })))
def M_r31_Perfect (g : Nat) (a0 : GTask) (a1 : Int) : Option (GCertificate) :=
  ob1 (M_b_Distances g a0 []) (fun z1 =>
   ob1 (M_b_States a0.Vars) (fun z2 =>
    M_r31_Perfect_L2 a1 z1 z2 ((((z2.map cL_cI).length : Int)).toNat + 1) 0 []))
set_option maxHeartbeats 16000000 in
set_option maxRecDepth 100000 in
theorem A_r31_Perfect (g : Nat) (a0 : GTask) (a1 : Int) {r1 : GCertificate} (h : M_r31_Perfect g a0 a1 = some r1) : ACall cx 21 [.agg [.sl 1 (a0.Vars.map cI), .sl 1 (a0.Init.map cI), .sl 2 (a0.Goal.map cF), .sl 4 (a0.Ops.map cGOp)], .c (.int .i64 a1)] (.agg [.c (.int .i64 r1.Bound), .sl 2 (r1.Nogoods.map cN)]) := by
  refine aOf Tryz.func21 rfl (by decide) rfl (Nat.le_of_ble_eq_true rfl) ?_; intro _; unfold M_r31_Perfect at h; refine aSq ?_; refine aRg ?_; intro _; refine dr_XDPer ?_; refine aSq ?_; refine aRg ?_; intro _; refine dr_XDPer ?_; refine aSq ?_; refine aRg ?_; intro _; obtain ⟨z1, u1, h⟩ := ob1_ok h; refine cl_XDPer rfl (A_b_Distances g a0 [] u1) ?_; intro _; refine dr_XDPer ?_; refine aSq ?_; refine aSq ?_; refine aRg ?_; intro _; obtain ⟨z2, u2, h⟩ := ob1_ok h; refine cl_XDPer rfl (A_b_States a0.Vars u2) ?_; intro _; refine dr_XDPer ?_; refine aBk ?_; refine awp_loop (α := Nat × Int × (List Nogood)) (fun x => mkS 74 [(1, .c (.int .i64 a1)), (4, .ptr 4 0 0 0), (5, .ptr 5 0 0 0), (6, .sl 1 (z1.map cI)), (17, .sl 1 (z2.map cL_cI)), (18, .c (.int .i64 ((z2.map cL_cI).length : Int))), (19, .c (.int .i64 x.2.1))] [(4, ⟨29, 2, true, [[.c (.int .i64 0), .c (.slice none 0 0)]]⟩), (5, ⟨29, 2, true, [[.c (.int .i64 a1), .own 70 0 0 x.2.2.length]]⟩), (70, ⟨51, 2, false, x.2.2.map cN⟩)]) (fun x => M_r31_Perfect_L2 a1 z1 z2 x.1 x.2.1 x.2.2 = some r1) (fun x => x.1) ((((z2.map cL_cI).length : Int)).toNat + 1, 0, []) h ?_ ?_
  · exact ca_XDPer
  · intro x3 h; intro _; obtain ⟨k123, m4, h⟩ := succ_of (f := fun n => M_r31_Perfect_L2 a1 z1 z2 n x3.2.1 x3.2.2) rfl h; replace h : M_r31_Perfect_L2 a1 z1 z2 (k123 + 1) x3.2.1 x3.2.2 = some r1 := h; rw [M_r31_Perfect_L2] at h; refine aSq ?_; refine aRg ?_; intro _; refine dr_XDPer ?_; refine aSq ?_; refine aCd ?_; intro _; refine spl h (fun c5 h => ?_) (fun c5 h => ?_)
    · refine aSk ?_; obtain ⟨o6, h, hK7⟩ := ob1_ok h; refine awp_cut (α := List Nogood) (fun v152 => mkS 74 [(1, .c (.int .i64 a1)), (4, .ptr 4 0 0 0), (5, .ptr 5 0 0 0), (6, .sl 1 (z1.map cI)), (17, .sl 1 (z2.map cL_cI)), (18, .c (.int .i64 ((z2.map cL_cI).length : Int))), (19, .c (.int .i64 x3.2.1))] [(4, ⟨29, 2, true, [[.c (.int .i64 0), .c (.slice none 0 0)]]⟩), (5, ⟨29, 2, true, [[.c (.int .i64 a1), .own 70 0 0 v152.length]]⟩), (70, ⟨51, 2, false, v152.map cN⟩)]) (fun v => o6 = v) ?_ ?_
      · refine aBk ?_; refine aSq ?_; refine aRg ?_; intro _; obtain ⟨y154, w8, q9, h⟩ := ix_ok h; refine Exists.intro (cL_cI y154) (And.intro (map_at' w8) ?_); intro _; refine pr_XDPer ?_; refine dr_XDPer ?_; obtain ⟨o10, h, hK11⟩ := ob1_ok h; refine awp_cut (α := Bool) (fun v157 => mkS 74 [(1, .c (.int .i64 a1)), (4, .ptr 4 0 0 0), (5, .ptr 5 0 0 0), (6, .sl 1 (z1.map cI)), (7, .c (.int .i64 x3.2.1)), (8, .sl 1 (y154.map cI)), (17, .sl 1 (z2.map cL_cI)), (18, .c (.int .i64 ((z2.map cL_cI).length : Int))), (19, .c (.int .i64 x3.2.1)), (30, .c (.int .i64 a1)), (31, .c (.bool (decide (a1 ≥ 0)))), (32, .c (.bool (decide (a1 ≥ 0)))), (39, .c (.bool v157))] [(4, ⟨29, 2, true, [[.c (.int .i64 0), .c (.slice none 0 0)]]⟩), (5, ⟨29, 2, true, [[.c (.int .i64 a1), .own 70 0 0 x3.2.2.length]]⟩), (70, ⟨51, 2, false, x3.2.2.map cN⟩)]) (fun v => o10 = (.inl v)) ?_ ?_
        · refine aSq ?_; refine aRg ?_; intro _; obtain ⟨y159, w12, q13, h⟩ := ix_ok h; refine Exists.intro (cI y159) (And.intro (map_at' w12) ?_); intro _; refine spf h (fun c14 h => ?_) (fun c14 h => ?_)
          · intro _; refine spl h (fun c15 h => ?_) (fun c15 h => ?_)
            · intro _; obtain ⟨y160, w16, q17, h⟩ := ix_ok h; refine Exists.intro (cI y160) (And.intro (map_at' w16) ?_); intro _; refine pr_XDPer ?_; refine pr_XDPer ?_; refine dr_XDPer ?_; refine aCd ?_; intro _; refine spl h (fun c18 h => ?_) (fun c18 h => ?_)
              · refine aEx ?_; have j19 := Option.some.inj h; subst j19; replace h := (osum_r hK11); refine ⟨x3.2.2, (Option.some.inj h).symm, ?_⟩; exact ca_XDPer
              · refine aSk ?_; refine ⟨(decide (y160 ≥ a1)), (Option.some.inj h).symm, ?_⟩; exact ca_XDPer
            · intro _; refine pr_XDPer ?_; refine dr_XDPer ?_; refine aCd ?_; intro _; refine litF ?_; refine aSk ?_; refine ⟨false, (Option.some.inj h).symm, ?_⟩; exact ca_XDPer
          · intro _; refine pr_XDPer ?_; refine dr_XDPer ?_; refine aCd ?_; intro _; refine litT ?_; refine aEx ?_; have j20 := Option.some.inj h; subst j20; replace h := (osum_r hK11); refine ⟨x3.2.2, (Option.some.inj h).symm, ?_⟩; exact ca_XDPer
        · rintro v157 ho; have ho := ho.symm; subst ho; intro _; replace h := (osum_l hK11); refine aSq ?_; refine aRg ?_; intro _; obtain ⟨y161, w21, q22, h⟩ := ix_ok h; refine Exists.intro (cI y161) (And.intro (map_at' w21) ?_); intro _; refine pr_XDPer ?_; refine dr_XDPer ?_; obtain ⟨o23, h, hK24⟩ := ob1_ok h; refine awp_cut (α := Int) (fun v162 => mkS 74 [(1, .c (.int .i64 a1)), (4, .ptr 4 0 0 0), (5, .ptr 5 0 0 0), (6, .sl 1 (z1.map cI)), (8, .sl 1 (y154.map cI)), (9, .ptr 9 0 0 0), (17, .sl 1 (z2.map cL_cI)), (18, .c (.int .i64 ((z2.map cL_cI).length : Int))), (19, .c (.int .i64 x3.2.1)), (30, .c (.int .i64 a1)), (31, .c (.bool (decide (a1 ≥ 0)))), (32, .c (.bool (decide (a1 ≥ 0)))), (39, .c (.bool v157))] [(4, ⟨29, 2, true, [[.c (.int .i64 0), .c (.slice none 0 0)]]⟩), (5, ⟨29, 2, true, [[.c (.int .i64 a1), .own 70 0 0 x3.2.2.length]]⟩), (9, ⟨51, 2, true, [[.c (.slice none 0 0), .c (.int .i64 v162)]]⟩), (70, ⟨51, 2, false, x3.2.2.map cN⟩)]) (fun v => o23 = v) ?_ ?_
          · refine aSq ?_; refine aRg ?_; intro _; refine dr_XDPer ?_; refine aCd ?_; intro _; refine spl h (fun c25 h => ?_) (fun c25 h => ?_)
            · refine aRg ?_; intro _; refine dr_XDPer ?_; refine ⟨0, (Option.some.inj h).symm, ?_⟩; exact ca_XDPer
            · refine aSk ?_; refine ⟨y161, (Option.some.inj h).symm, ?_⟩; exact ca_XDPer
          · rintro v162 ho; have ho := ho.symm; subst ho; intro _; replace h := hK24; obtain ⟨o26, h, hK27⟩ := ob1_ok h; refine awp_cut (α := List Fact) (fun v172 => mkS 74 [(1, .c (.int .i64 a1)), (4, .ptr 4 0 0 0), (5, .ptr 5 0 0 0), (6, .sl 1 (z1.map cI)), (9, .ptr 9 0 0 0), (17, .sl 1 (z2.map cL_cI)), (18, .c (.int .i64 ((z2.map cL_cI).length : Int))), (19, .c (.int .i64 x3.2.1)), (30, .c (.int .i64 a1)), (31, .c (.bool (decide (a1 ≥ 0)))), (32, .c (.bool (decide (a1 ≥ 0)))), (39, .c (.bool v157))] [(4, ⟨29, 2, true, [[.c (.int .i64 0), .c (.slice none 0 0)]]⟩), (5, ⟨29, 2, true, [[.c (.int .i64 a1), .own 70 0 0 x3.2.2.length]]⟩), (9, ⟨51, 2, true, [[.own 63 0 0 v172.length, .c (.int .i64 v162)]]⟩), (63, ⟨63, 2, false, v172.map cF⟩), (70, ⟨51, 2, false, x3.2.2.map cN⟩)]) (fun v => o26 = v) ?_ ?_
            · refine aSq ?_; refine aRg ?_; intro _; refine dr_XDPer ?_; refine aBk ?_; refine awp_loop (α := Nat × Int × (List Fact)) (fun x => mkS 74 [(1, .c (.int .i64 a1)), (4, .ptr 4 0 0 0), (5, .ptr 5 0 0 0), (6, .sl 1 (z1.map cI)), (8, .sl 1 (y154.map cI)), (9, .ptr 9 0 0 0), (17, .sl 1 (z2.map cL_cI)), (18, .c (.int .i64 ((z2.map cL_cI).length : Int))), (19, .c (.int .i64 x3.2.1)), (30, .c (.int .i64 a1)), (31, .c (.bool (decide (a1 ≥ 0)))), (32, .c (.bool (decide (a1 ≥ 0)))), (39, .c (.bool v157)), (50, .c (.int .i64 ((y154.map cI).length : Int))), (51, .c (.int .i64 x.2.1))] [(4, ⟨29, 2, true, [[.c (.int .i64 0), .c (.slice none 0 0)]]⟩), (5, ⟨29, 2, true, [[.c (.int .i64 a1), .own 70 0 0 x3.2.2.length]]⟩), (9, ⟨51, 2, true, [[.own 63 0 0 x.2.2.length, .c (.int .i64 v162)]]⟩), (63, ⟨63, 2, false, x.2.2.map cF⟩), (70, ⟨51, 2, false, x3.2.2.map cN⟩)]) (fun x => M_r31_Perfect_L1 y154 x.1 x.2.1 x.2.2 = some o26) (fun x => x.1) ((((y154.map cI).length : Int)).toNat + 1, 0, []) h ?_ ?_
              · exact ca_XDPer
              · intro x28 h; intro _; obtain ⟨k180, m29, h⟩ := succ_of (f := fun n => M_r31_Perfect_L1 y154 n x28.2.1 x28.2.2) rfl h; replace h : M_r31_Perfect_L1 y154 (k180 + 1) x28.2.1 x28.2.2 = some o26 := h; rw [M_r31_Perfect_L1] at h; refine aSq ?_; refine aRg ?_; intro _; refine dr_XDPer ?_; refine aSq ?_; refine aCd ?_; intro _; refine spl h (fun c30 h => ?_) (fun c30 h => ?_)
                · refine aSk ?_; refine aSq ?_; refine aBk ?_; refine aSq ?_; refine aRg ?_; intro _; refine dr_XDPer ?_; refine aRg ?_; intro _; obtain ⟨y181, w31, q32, h⟩ := ix_ok h; refine Exists.intro (cI y181) (And.intro (map_at' w31) ?_); intro _; obtain ⟨q33, h⟩ := grd_ok h; refine pr_XDPer ?_; refine pl_XDPer ?_; refine pl_XDPer ?_; refine And.intro (by first | with_reducible assumption | (show (x28.2.2.length + 1) * 16 ≤ 140737488355328; with_reducible assumption) | omega | (simp; omega)) ?_; refine pe_XDPer ?_; refine dr_XDPer ?_; refine aRg ?_; intro _; refine dr_XDPer ?_; refine ⟨(k180, (IntKind.i64.wrap (x28.2.1 + 1)), (x28.2.2 ++ [(x28.2.1, y181)])), h, ltS m29, ?_⟩; exact ca_XDPer
                · refine aEx ?_; refine ⟨x28.2.2, (Option.some.inj h).symm, ?_⟩; exact ca_XDPer
            · rintro v172 ho; have ho := ho.symm; subst ho; intro _; replace h := hK27; refine aRg ?_; intro _; obtain ⟨q34, h⟩ := grd_ok h; refine pl_XDPer ?_; refine pl_XDPer ?_; refine And.intro (by first | with_reducible assumption | (show (x3.2.2.length + 1) * 32 ≤ 140737488355328; with_reducible assumption) | omega | (simp; omega)) ?_; refine pe_XDPer ?_; refine dr_XDPer ?_; obtain ⟨q35, h⟩ := grd_ok h; refine ⟨(x3.2.2 ++ [(v172, v162)]), (Option.some.inj h).symm, ?_⟩; exact ca_XDPer
      · rintro v152 ho; have ho := ho.symm; subst ho; intro _; replace h := hK7; refine aRg ?_; intro _; refine dr_XDPer ?_; refine ⟨(k123, (IntKind.i64.wrap (x3.2.1 + 1)), v152), h, ltS m4, ?_⟩; exact ca_XDPer
    · refine aEx ?_; refine aSq ?_; refine aRg ?_; intro _; refine dr_XDPer ?_; refine aRt ?_; obtain ⟨q36, h⟩ := grd_ok h; intro _; obtain rfl := inj1 h; exact ca_XDPer
def M_b_Best (g : Nat) (a0 : GTask) : Option (Int) :=
  ob1 (M_b_Distances g a0 []) (fun z1 =>
   ob1 (M_b_Rank a0.Vars a0.Init) (fun z2 =>
    ix z1 z2 (fun y3 =>
     some y3)))
set_option maxHeartbeats 16000000 in
set_option maxRecDepth 100000 in
theorem A_b_Best (g : Nat) (a0 : GTask) {r1 : Int} (h : M_b_Best g a0 = some r1) : ACall cx 22 [.agg [.sl 1 (a0.Vars.map cI), .sl 1 (a0.Init.map cI), .sl 2 (a0.Goal.map cF), .sl 4 (a0.Ops.map cGOp)]] (.c (.int .i64 r1)) := by
  refine aOf Tryz.func22 rfl (by decide) rfl (Nat.le_of_ble_eq_true rfl) ?_; intro _; unfold M_b_Best at h; refine aSq ?_; refine aRg ?_; intro _; refine dr_XDPer ?_; refine aSq ?_; refine aRg ?_; intro _; obtain ⟨z1, u1, h⟩ := ob1_ok h; refine cl_XDPer rfl (A_b_Distances g a0 [] u1) ?_; intro _; obtain ⟨z2, u2, h⟩ := ob1_ok h; refine cl_XDPer rfl (A_b_Rank a0.Vars a0.Init u2) ?_; intro _; obtain ⟨y3, w3, q4, h⟩ := ix_ok h; refine Exists.intro (cI y3) (And.intro (map_at' w3) ?_); intro _; refine pr_XDPer ?_; refine dr_XDPer ?_; refine aRt ?_; intro _; obtain rfl := inj1 h; exact ca_XDPer
def M_l31_CheckerPerfect (g : Nat) (a0 : GTask) (a1 : Int) : Option (Bool) :=
  ob1 (ob1 (M_l31_gentle a0) (fun z9 =>
    sel (!z9)
     (ob1 (M_l31_awake g) (fun z14 =>
       some (.inr z14)))
     (ob1 (M_b_Many a0.Vars 24) (fun z10 =>
       sel (decide (z10 > 24))
        (ob1 (M_l31_awake g) (fun z13 =>
          some (.inr z13)))
        (ob1 (M_l31_awake g) (fun z11 =>
          sel (!z11)
           (ob1 (M_l31_awake g) (fun z12 =>
             some (.inr z12)))
           (some (.inl ()))))))) : Option (Unit ⊕ Bool))
   (osum
   (fun _ => ob1 (M_b_Clip a1 (-1) 60) (fun z15 =>
      ob1 (M_r31_Perfect g a0 z15) (fun z16 =>
       ob1 (M_b_Best g a0) (fun z17 =>
        ob1 (M_checker_Verify g a0 z16 1048576) (fun z18 =>
         sel (decide (z15 < 0))
          (sel (z17 == 1125899906842624)
            (erM z18
              (some true)
              (fun _ => some false))
            (sel (decide (z15 ≥ 0))
              (sel (decide (z17 ≥ z15))
                (erM z18
                  (some true)
                  (fun _ => some false))
                (ob1 (M_b_Is z18 20) (fun z20 =>
                  some z20)))
              (ob1 (M_b_Is z18 20) (fun z21 =>
                some z21))))
          (sel (decide (z15 ≥ 0))
            (sel (decide (z17 ≥ z15))
              (erM z18
                (some true)
                (fun _ => some false))
              (ob1 (M_b_Is z18 20) (fun z24 =>
                some z24)))
            (ob1 (M_b_Is z18 20) (fun z25 =>
              some z25))))))))
   (fun r7 => some r7))
set_option maxHeartbeats 16000000 in
set_option maxRecDepth 100000 in
theorem A_l31_CheckerPerfect (g : Nat) (a0 : GTask) (a1 : Int) {r1 : Bool} (h : M_l31_CheckerPerfect g a0 a1 = some r1) : ACall cx 5 [.agg [.sl 1 (a0.Vars.map cI), .sl 1 (a0.Init.map cI), .sl 2 (a0.Goal.map cF), .sl 4 (a0.Ops.map cGOp)], .c (.int .i64 a1)] (.c (.bool r1)) := by
  refine aOf Tryz.func5 rfl (by decide) rfl (Nat.le_of_ble_eq_true rfl) ?_; intro _; unfold M_l31_CheckerPerfect at h; refine aSq ?_; refine aRg ?_; intro _; refine dr_XDPer ?_; obtain ⟨o1, h, hK2⟩ := ob1_ok h; refine awp_cut (α := Unit) (fun _ => mkS 51 [(1, .c (.int .i64 a1)), (2, .ptr 2 0 0 0)] [(2, ⟨26, 4, true, [[.sl 1 (a0.Vars.map cI), .sl 1 (a0.Init.map cI), .sl 2 (a0.Goal.map cF), .sl 4 (a0.Ops.map cGOp)]]⟩)]) (fun v => o1 = (.inl v)) ?_ ?_
  · refine aSq ?_; refine aRg ?_; intro _; obtain ⟨z9, u3, h⟩ := ob1_ok h; refine cl_XDPer rfl (A_l31_gentle a0 u3) ?_; intro _; refine spf h (fun c4 h => ?_) (fun c4 h => ?_)
    · intro _; obtain ⟨z10, u5, h⟩ := ob1_ok h; refine cl_XDPer rfl (A_b_Many a0.Vars 24 u5) ?_; intro _; refine spf h (fun c6 h => ?_) (fun c6 h => ?_)
      · intro _; obtain ⟨z11, u7, h⟩ := ob1_ok h; refine cl_XDPer rfl (A_l31_awake g u7) ?_; intro _; refine dr_XDPer ?_; refine aCd ?_; intro _; refine spl h (fun c8 h => ?_) (fun c8 h => ?_)
        · refine aSq ?_; refine aRg ?_; intro _; obtain ⟨z12, u9, h⟩ := ob1_ok h; refine cl_XDPer rfl (A_l31_awake g u9) ?_; intro _; refine dr_XDPer ?_; refine aRt ?_; have j10 := Option.some.inj h; subst j10; replace h := (osum_r hK2); intro _; obtain rfl := inj1 h; exact ca_XDPer
        · refine aSk ?_; refine ⟨(), (Option.some.inj h).symm, ?_⟩; exact ca_XDPer
      · intro _; refine dr_XDPer ?_; refine aCd ?_; intro _; refine litT ?_; refine aSq ?_; refine aRg ?_; intro _; obtain ⟨z13, u11, h⟩ := ob1_ok h; refine cl_XDPer rfl (A_l31_awake g u11) ?_; intro _; refine dr_XDPer ?_; refine aRt ?_; have j12 := Option.some.inj h; subst j12; replace h := (osum_r hK2); intro _; obtain rfl := inj1 h; exact ca_XDPer
    · intro _; refine dr_XDPer ?_; refine aCd ?_; intro _; refine litT ?_; refine aSq ?_; refine aRg ?_; intro _; obtain ⟨z14, u13, h⟩ := ob1_ok h; refine cl_XDPer rfl (A_l31_awake g u13) ?_; intro _; refine dr_XDPer ?_; refine aRt ?_; have j14 := Option.some.inj h; subst j14; replace h := (osum_r hK2); intro _; obtain rfl := inj1 h; exact ca_XDPer
  · rintro _ ho; have ho := ho.symm; subst ho; intro _; replace h := (osum_l hK2); refine aSq ?_; refine aRg ?_; intro _; obtain ⟨z15, u15, h⟩ := ob1_ok h; refine cl_XDPer rfl (A_b_Clip a1 (-1) 60 u15) ?_; intro _; refine dr_XDPer ?_; refine aSq ?_; refine aRg ?_; intro _; obtain ⟨z16, u16, h⟩ := ob1_ok h; refine cl_XDPer rfl (A_r31_Perfect g a0 z15 u16) ?_; intro _; refine dr_XDPer ?_; refine aSq ?_; refine aRg ?_; intro _; obtain ⟨z17, u17, h⟩ := ob1_ok h; refine cl_XDPer rfl (A_b_Best g a0 u17) ?_; intro _; refine dr_XDPer ?_; refine aSq ?_; refine aRg ?_; intro _; obtain ⟨z18, u18, h⟩ := ob1_ok h; refine cl_XDPer rfl (A_checker_Verify g a0 z16 1048576 u18) ?_; intro _; refine dr_XDPer ?_; refine aSq ?_; refine aSq ?_; refine aRg ?_; intro _; refine spl h (fun c19 h => ?_) (fun c19 h => ?_)
    · intro _; refine spf h (fun c20 h => ?_) (fun c20 h => ?_)
      · intro _; refine spl h (fun c21 h => ?_) (fun c21 h => ?_)
        · intro _; refine dr_XDPer ?_; refine aCd ?_; intro _; refine spl h (fun c22 h => ?_) (fun c22 h => ?_)
          · refine aSq ?_; rcases z18 with _ | e19
            · replace h := erM_nil h; refine aRg ?_; intro _; refine dr_XDPer ?_; refine aRt ?_; intro _; obtain rfl := inj1 h; exact ca_XDPer
            · replace h := erM_no h; refine aRg ?_; intro _; refine dr_XDPer ?_; refine aRt ?_; intro _; obtain rfl := inj1 h; exact ca_XDPer
          · refine aSk ?_; refine aSq ?_; refine aRg ?_; intro _; obtain ⟨z20, u23, h⟩ := ob1_ok h; refine cl_XDPer rfl (A_b_Is z18 20 u23) ?_; intro _; refine dr_XDPer ?_; refine aRt ?_; intro _; obtain rfl := inj1 h; exact ca_XDPer
        · intro _; refine dr_XDPer ?_; refine aCd ?_; intro _; refine litF ?_; refine aSk ?_; refine aSq ?_; refine aRg ?_; intro _; obtain ⟨z21, u24, h⟩ := ob1_ok h; refine cl_XDPer rfl (A_b_Is z18 20 u24) ?_; intro _; refine dr_XDPer ?_; refine aRt ?_; intro _; obtain rfl := inj1 h; exact ca_XDPer
      · intro _; refine dr_XDPer ?_; refine aCd ?_; intro _; refine litT ?_; refine aSq ?_; rcases z18 with _ | e22
        · replace h := erM_nil h; refine aRg ?_; intro _; refine dr_XDPer ?_; refine aRt ?_; intro _; obtain rfl := inj1 h; exact ca_XDPer
        · replace h := erM_no h; refine aRg ?_; intro _; refine dr_XDPer ?_; refine aRt ?_; intro _; obtain rfl := inj1 h; exact ca_XDPer
    · intro _; refine spl h (fun c25 h => ?_) (fun c25 h => ?_)
      · intro _; refine dr_XDPer ?_; refine aCd ?_; intro _; refine spl h (fun c26 h => ?_) (fun c26 h => ?_)
        · refine aSq ?_; rcases z18 with _ | e23
          · replace h := erM_nil h; refine aRg ?_; intro _; refine dr_XDPer ?_; refine aRt ?_; intro _; obtain rfl := inj1 h; exact ca_XDPer
          · replace h := erM_no h; refine aRg ?_; intro _; refine dr_XDPer ?_; refine aRt ?_; intro _; obtain rfl := inj1 h; exact ca_XDPer
        · refine aSk ?_; refine aSq ?_; refine aRg ?_; intro _; obtain ⟨z24, u27, h⟩ := ob1_ok h; refine cl_XDPer rfl (A_b_Is z18 20 u27) ?_; intro _; refine dr_XDPer ?_; refine aRt ?_; intro _; obtain rfl := inj1 h; exact ca_XDPer
      · intro _; refine dr_XDPer ?_; refine aCd ?_; intro _; refine litF ?_; refine aSk ?_; refine aSq ?_; refine aRg ?_; intro _; obtain ⟨z25, u28, h⟩ := ob1_ok h; refine cl_XDPer rfl (A_b_Is z18 20 u28) ?_; intro _; refine dr_XDPer ?_; refine aRt ?_; intro _; obtain rfl := inj1 h; exact ca_XDPer
end Go.Proofs.YtcpajbglcgbolaaGreat.Am
/- Range loops of the models as recursions. -/
namespace Go.Proofs.YtcpajbglcgbolaaGreat.Am
def M_r31_Perfect_L1_B (_ : List Int) (_y181 : Int) (v178 : Int) : ((List Fact)) → (((List Fact)) → Option (List Fact)) → Option (List Fact) := fun v179 rc => ixv _y181 (fun y181 =>
       grd ((v179.length + 1) * 16 ≤ 140737488355328) (rc ((v179 ++ [(v178, y181)]))))
def M_r31_Perfect_L1_E (_ : List Int) : ((List Fact)) → Option (List Fact) := fun v179 => some v179
theorem M_r31_Perfect_L1_rg (y154 : List Int) (hl : y154.length < 9223372036854775807) : ∀ (k n : Nat) (v179 : List Fact), n ≤ y154.length → y154.length < k + n → M_r31_Perfect_L1 y154 k (n : Int) v179 = Rg (M_r31_Perfect_L1_B y154) (M_r31_Perfect_L1_E y154) (y154.drop n) n v179 := by
  intro k n v179
  refine rg_of (L := fun k i (p : ((List Fact))) => match p with | v179 => M_r31_Perfect_L1 y154 k i v179) hl (fun k n p y hy hn => ?_) (fun k p => ?_) k n v179
  · have h1 := lt_some hy
    have h2 := w64s hn
    first | (simp only [M_r31_Perfect_L1, M_r31_Perfect_L1_B, List.length_map, decide_lt h1, sel, ix_at hy, ixv, h2]; done) | (simp only [List.length_map] at h1 hy; simp only [M_r31_Perfect_L1, M_r31_Perfect_L1_B, List.length_map, decide_lt h1, sel, ix_at hy, ixv, h2]; done)
  · simp only [M_r31_Perfect_L1, M_r31_Perfect_L1_E, List.length_map, decide_ge, sel]
theorem M_r31_Perfect_L1_eq (y154 : List Int) (v179 : List Fact) (hl : y154.length < 9223372036854775807) : M_r31_Perfect_L1 y154 (((y154.map cI).length : Int).toNat + 1) 0 v179 = Rg (M_r31_Perfect_L1_B y154) (M_r31_Perfect_L1_E y154) y154 0 v179 := by
  have h := M_r31_Perfect_L1_rg y154 hl (y154.length + 1) 0 v179 (Nat.zero_le _) (by omega)
  rw [List.length_map, Int.toNat_natCast]
  exact h
def M_r31_Perfect_L2_B (a1 : Int) (z1 : List Int) (_ : List (List Int)) (_y154 : List Int) (v121 : Int) : ((List Nogood)) → (((List Nogood)) → Option (GCertificate)) → Option (GCertificate) := fun v122 rc => ob1 (ixv _y154 (fun y154 =>
        ob1 (ix z1 v121 (fun y159 =>
          sel (y159 == 1125899906842624)
           (some (.inr ()))
           (sel (decide (a1 ≥ 0))
             (ix z1 v121 (fun y160 =>
               sel (decide (y160 ≥ a1))
                (some (.inr ()))
                (some (.inl (decide (y160 ≥ a1))))))
             (some (.inl false)))) : Option (Bool ⊕ Unit))
         (osum
         (fun _ => ix z1 v121 (fun y161 =>
            ob1 (sel (decide (a1 < 0))
              (some 0)
              (some y161) : Option (Int))
             (fun v162 => ob1 (M_r31_Perfect_L1 y154 ((((y154.map cI).length : Int)).toNat + 1) 0 [] : Option (List Fact))
                (fun v172 => grd ((v122.length + 1) * 32 ≤ 140737488355328) (grd (v172.length ≤ 140737488355328) (some (v122 ++ [(v172, v162)])))))))
         (fun _ => some v122))) : Option (List Nogood))
       (fun v152 => rc (v152))
def M_r31_Perfect_L2_E (a1 : Int) (_ : List Int) (_ : List (List Int)) : ((List Nogood)) → Option (GCertificate) := fun v122 => grd (v122.length ≤ 140737488355328) (some ({ Bound := a1, Nogoods := v122 : GCertificate }))
theorem M_r31_Perfect_L2_rg (a1 : Int) (z1 : List Int) (z2 : List (List Int)) (hl : z2.length < 9223372036854775807) : ∀ (k n : Nat) (v122 : List Nogood), n ≤ z2.length → z2.length < k + n → M_r31_Perfect_L2 a1 z1 z2 k (n : Int) v122 = Rg (M_r31_Perfect_L2_B a1 z1 z2) (M_r31_Perfect_L2_E a1 z1 z2) (z2.drop n) n v122 := by
  intro k n v122
  refine rg_of (L := fun k i (p : ((List Nogood))) => match p with | v122 => M_r31_Perfect_L2 a1 z1 z2 k i v122) hl (fun k n p y hy hn => ?_) (fun k p => ?_) k n v122
  · have h1 := lt_some hy
    have h2 := w64s hn
    first | (simp only [M_r31_Perfect_L2, M_r31_Perfect_L2_B, List.length_map, decide_lt h1, sel, ix_at hy, ixv, h2]; done) | (simp only [List.length_map] at h1 hy; simp only [M_r31_Perfect_L2, M_r31_Perfect_L2_B, List.length_map, decide_lt h1, sel, ix_at hy, ixv, h2]; done)
  · simp only [M_r31_Perfect_L2, M_r31_Perfect_L2_E, List.length_map, decide_ge, sel]
theorem M_r31_Perfect_L2_eq (a1 : Int) (z1 : List Int) (z2 : List (List Int)) (v122 : List Nogood) (hl : z2.length < 9223372036854775807) : M_r31_Perfect_L2 a1 z1 z2 (((z2.map cL_cI).length : Int).toNat + 1) 0 v122 = Rg (M_r31_Perfect_L2_B a1 z1 z2) (M_r31_Perfect_L2_E a1 z1 z2) z2 0 v122 := by
  have h := M_r31_Perfect_L2_rg a1 z1 z2 hl (z2.length + 1) 0 v122 (Nat.zero_le _) (by omega)
  rw [List.length_map, Int.toNat_natCast]
  exact h
end Go.Proofs.YtcpajbglcgbolaaGreat.Am
/- Plain law: CheckerPerfect. -/
namespace Go.Proofs.YtcpajbglcgbolaaGreat.Am
open Go.RowKit
/-- the facts of a state -/
def fS : List Int → Int → List Fact
  | [], _ => []
  | x :: r, i => (i, x) :: fS r (i + 1)
theorem fS_mem (f : Fact) : ∀ (r : List Int) (i : Int), f ∈ fS r i ↔ ∃ (j : Nat) (x : Int), r[j]? = some x ∧ f = (i + j, x)
  | [], i => ⟨(nofun), fun ⟨j, x, h, _⟩ => by simp at h⟩
  | y :: r, i => by
    rw [fS, List.mem_cons, fS_mem f r (i + 1)]
    constructor
    · rintro (h | ⟨j, x, h1, h2⟩)
      · exact ⟨0, y, rfl, by rw [h]; simp⟩
      · exact ⟨j + 1, x, by rw [List.getElem?_cons_succ]; exact h1, by rw [h2]; congr 1; omega⟩
    · rintro ⟨j, x, h1, h2⟩
      cases j with
      | zero =>
        simp only [List.getElem?_cons_zero, Option.some.injEq] at h1
        exact .inl (by rw [h2, ← h1]; simp)
      | succ j =>
        rw [List.getElem?_cons_succ] at h1
        exact .inr ⟨j, x, h1, by rw [h2]; congr 1; omega⟩
theorem fS_asc : ∀ (r : List Int) (i : Int), Asc (fS r i)
  | [], _ => List.Pairwise.nil
  | y :: r, i => by
    rw [fS]
    refine List.pairwise_cons.2 ⟨fun f hf => ?_, fS_asc r (i + 1)⟩
    obtain ⟨j, x, -, rfl⟩ := (fS_mem f r (i + 1)).1 hf
    show i < i + 1 + (j : Int)
    omega
theorem fS_len : ∀ (r : List Int) (i : Int), (fS r i).length = r.length
  | [], _ => rfl
  | y :: r, i => by rw [fS, List.length_cons, List.length_cons, fS_len r]
theorem holds_fS {s u : List Int} (h : u.length = s.length) : holdsF u (fS s 0) = true ↔ u = s := by
  rw [holdsF_iff]
  constructor
  · intro hh
    apply List.ext_getElem?
    intro j
    by_cases hj : j < s.length
    · have hs := List.getElem?_eq_getElem hj
      have := hold1_iff.1 (hh (0 + (j : Int), s[j]) ((fS_mem _ s 0).2 ⟨j, s[j], hs, rfl⟩))
      have h3 := this.2.2
      simp only at h3
      rw [show ((0 : Int) + (j : Int)).toNat = j from by omega, List.getD_eq_getElem?_getD, List.getElem?_eq_getElem (by omega), Option.getD_some] at h3
      rw [hs, List.getElem?_eq_getElem (by omega), h3]
    · rw [List.getElem?_eq_none (by omega), List.getElem?_eq_none (by omega)]
  · rintro rfl f hf
    obtain ⟨j, x, h1, rfl⟩ := (fS_mem f u 0).1 hf
    have hlt := (List.getElem?_eq_some_iff.1 h1).1
    refine hold1_iff.2 ⟨by show 0 ≤ 0 + (j : Int); omega, by show 0 + (j : Int) < _; omega, ?_⟩
    show u.getD (0 + (j : Int)).toNat 0 = x
    rw [show ((0 : Int) + (j : Int)).toNat = j from by omega, List.getD_eq_getElem?_getD, h1, Option.getD_some]
theorem fS_prop {vars s : List Int} (hs : stateF vars s = true) : propF vars (-1) (fS s 0) = true := by
  have st := stateF_st hs
  refine (propF_iff _ _ _).2 ⟨(vF_iff' _).2 ⟨fun f hf => ?_, fS_asc s 0⟩, fun f hf => ?_⟩
  all_goals
    obtain ⟨j, x, h1, rfl⟩ := (fS_mem f s 0).1 hf
    have hlt := (List.getElem?_eq_some_iff.1 h1).1
    have hr := st.rng j (by rw [← st.len]; exact hlt)
    rw [List.getD_eq_getElem?_getD, h1, Option.getD_some] at hr
    have hl := st.len
  · exact ⟨by show 0 ≤ 0 + (j : Int); omega, hr.1⟩
  · refine ⟨by show 0 + (j : Int) < _; omega, ?_⟩
    show x < vars.getD (0 + (j : Int)).toNat 0
    rw [show ((0 : Int) + (j : Int)).toNat = j from by omega]
    exact hr.2
def keepP (b x : Int) : Prop := x ≠ infD ∧ ¬ (0 ≤ b ∧ b ≤ x)
instance (b x : Int) : Decidable (keepP b x) := inferInstanceAs (Decidable (_ ∧ _))
def distP (b x : Int) : Int := if b < 0 then 0 else x
def pN (b : Int) (d : List Int) : List (List Int) → Nat → List Nogood
  | [], _ => []
  | s :: r, n => (if keepP b (d.getD n 0) then [(fS s 0, distP b (d.getD n 0))] else []) ++ pN b d r (n + 1)
theorem pN_len (b : Int) (d : List Int) : ∀ (r : List (List Int)) (n : Nat), (pN b d r n).length ≤ r.length
  | [], _ => Nat.le_refl _
  | s :: r, n => by
    have := pN_len b d r (n + 1)
    rw [pN, List.length_append, List.length_cons]
    split <;> simp <;> omega
theorem pN_mem (b : Int) (d : List Int) (m : Nogood) : ∀ (r : List (List Int)) (n : Nat), m ∈ pN b d r n ↔ ∃ (i : Nat) (s : List Int), r[i]? = some s ∧ keepP b (d.getD (n + i) 0) ∧ m = (fS s 0, distP b (d.getD (n + i) 0))
  | [], n => ⟨(nofun), fun ⟨i, s, h, _⟩ => by simp at h⟩
  | s :: r, n => by
    rw [pN, List.mem_append, pN_mem b d m r (n + 1)]
    constructor
    · rintro (h | ⟨i, u, h1, h2, h3⟩)
      · split at h
        · rename_i hk
          exact ⟨0, s, rfl, by rw [Nat.add_zero]; exact hk, by rw [Nat.add_zero]; exact List.mem_singleton.1 h⟩
        · cases h
      · exact ⟨i + 1, u, by rw [List.getElem?_cons_succ]; exact h1, by rw [show n + (i + 1) = n + 1 + i from by omega]; exact h2, by rw [show n + (i + 1) = n + 1 + i from by omega]; exact h3⟩
    · rintro ⟨i, u, h1, h2, h3⟩
      cases i with
      | zero =>
        simp only [List.getElem?_cons_zero, Option.some.injEq] at h1
        subst h1
        rw [Nat.add_zero] at h2 h3
        exact .inl (by rw [if_pos h2]; exact List.mem_singleton.2 h3)
      | succ i =>
        rw [List.getElem?_cons_succ] at h1
        rw [show n + (i + 1) = n + 1 + i from by omega] at h2 h3
        exact .inr ⟨i, u, h1, h2, h3⟩
def perC (t : GTask) (d : List Int) (b : Int) : GCertificate := { Bound := b, Nogoods := pN b d (allF t) 0 }
theorem per_mem {t : GTask} {d : List Int} {b : Int} {m : Nogood} : m ∈ (perC t d b).Nogoods ↔ ∃ (i : Nat) (s : List Int), (allF t)[i]? = some s ∧ keepP b (d.getD i 0) ∧ m = (fS s 0, distP b (d.getD i 0)) := by
  show m ∈ pN b d (allF t) 0 ↔ _
  rw [pN_mem]
  simp only [Nat.zero_add]
theorem per1 (y : List Int) : ∀ (r : List Int) (n : Nat) (v : List Fact), v.length + r.length ≤ 1000000 → Rg (M_r31_Perfect_L1_B y) (M_r31_Perfect_L1_E y) r n v = some (v ++ fS r n)
  | [], n, v, _ => by rw [Rg, M_r31_Perfect_L1_E, fS, List.append_nil]
  | x :: r, n, v, h => by
    rw [List.length_cons] at h
    rw [Rg, M_r31_Perfect_L1_B, ixv, grd_t (by omega), show ((n : Int) + 1) = ((n + 1 : Nat) : Int) from rfl, per1 y r (n + 1) _ (by simp; omega), fS, List.append_assoc]; rfl
theorem per2 {t : GTask} {d : List Int} (hd : d.length = (allF t).length) (b : Int) : ∀ (r : List (List Int)) (n : Nat) (v : List Nogood), (allF t).drop n = r → (∀ s ∈ r, s.length ≤ 1000) → v.length + r.length ≤ 1000000 →
    Rg (M_r31_Perfect_L2_B b d (allF t)) (M_r31_Perfect_L2_E b d (allF t)) r n v = some { Bound := b, Nogoods := v ++ pN b d r n }
  | [], n, v, _, _, h => by rw [Rg, M_r31_Perfect_L2_E, grd_t (by simp at h; omega), pN, List.append_nil]
  | s :: r, n, v, hdr, hl, h => by
    obtain ⟨hs, hd', hlt⟩ := drop_cons hdr
    rw [List.length_cons] at h
    obtain ⟨x, hx⟩ : ∃ x, d[n]? = some x := ⟨_, List.getElem?_eq_getElem (by omega)⟩
    have hxd : d.getD n 0 = x := by rw [List.getD_eq_getElem?_getD, hx, Option.getD_some]
    have hl2 : ∀ u ∈ r, u.length ≤ 1000 := fun u hu => hl u (List.mem_cons_of_mem _ hu)
    have hsl := hl s (List.mem_cons_self ..)
    have hskip : ¬ keepP b x → Rg (M_r31_Perfect_L2_B b d (allF t)) (M_r31_Perfect_L2_E b d (allF t)) r (n + 1) v = some { Bound := b, Nogoods := v ++ pN b d (s :: r) n } := fun hk => by
      rw [show ((n : Int) + 1) = ((n + 1 : Nat) : Int) from rfl, per2 hd b r (n + 1) v hd' hl2 (by omega), pN, hxd, if_neg hk, List.nil_append]
    have htake : keepP b x → ob1 (sel (decide (b < 0)) (some 0) (some x) : Option Int) (fun v162 => ob1 (M_r31_Perfect_L1 s ((((s.map cI).length : Int)).toNat + 1) 0 [] : Option (List Fact)) (fun v172 => grd ((v.length + 1) * 32 ≤ 140737488355328) (grd (v172.length ≤ 140737488355328) (some (v ++ [(v172, v162)]))))) = some (v ++ [(fS s 0, distP b x)]) := fun _ => by
      have e1 : M_r31_Perfect_L1 s ((((s.map cI).length : Int)).toNat + 1) 0 [] = some (fS s 0) := by
        rw [M_r31_Perfect_L1_eq s [] (by omega)]
        have := per1 s s 0 [] (by simp; omega)
        rw [List.nil_append] at this
        exact this
      rw [e1, sel_dec]
      have hfl := fS_len s 0
      unfold distP
      split <;> rw [ob1_some, ob1_some, grd_t (by omega), grd_t (by omega)]
    have hgo : keepP b x → Rg (M_r31_Perfect_L2_B b d (allF t)) (M_r31_Perfect_L2_E b d (allF t)) r (n + 1) (v ++ [(fS s 0, distP b x)]) = some { Bound := b, Nogoods := v ++ pN b d (s :: r) n } := fun hk => by
      rw [show ((n : Int) + 1) = ((n + 1 : Nat) : Int) from rfl, per2 hd b r (n + 1) _ hd' hl2 (by simp; omega), pN, hxd, if_pos hk, List.append_assoc]
    rw [Rg, M_r31_Perfect_L2_B]
    simp only [ixv, ix_at hx]
    by_cases hi : x = 1125899906842624
    · rw [show (x == 1125899906842624) = true from by simp [hi], sel_tt, ob1_some, osum_inr, ob1_some]
      exact hskip (fun hk => hk.1 hi)
    · rw [show (x == 1125899906842624) = false from by simp [hi], sel_ff, sel_dec]
      by_cases hb : b ≥ 0
      · rw [if_pos hb, sel_dec]
        by_cases hx2 : x ≥ b
        · rw [if_pos hx2, ob1_some, osum_inr, ob1_some]
          exact hskip (fun hk => hk.2 ⟨hb, hx2⟩)
        · rw [if_neg hx2, ob1_some, osum_inl, htake ⟨hi, fun h => hx2 h.2⟩, ob1_some]
          exact hgo ⟨hi, fun h => hx2 h.2⟩
      · rw [if_neg hb, ob1_some, osum_inl, htake ⟨hi, fun h => hb h.1⟩, ob1_some]
        exact hgo ⟨hi, fun h => hb h.1⟩
theorem getD_at {d : List Int} {i : Nat} {x : Int} (h : d[i]? = some x) : d.getD i 0 = x := by rw [List.getD_eq_getElem?_getD, h, Option.getD_some]
/-- the certificate of all states is right, and accepted exactly if the first state is not in it -/
theorem per_cert {t : GTask} (h : GenP t) {d : List Int} (hd : DFix t d) {b : Int} (b0 : -1 ≤ b) (b1 : b ≤ 60) : CertP t.Vars (perC t d b) := by
  have hdom := good_dom h.good
  have hv := h.vars
  have hlen : (perC t d b).Nogoods.length ≤ (allF t).length := pN_len b d (allF t) 0
  have hal := h.st24
  have hat : ∀ n ∈ (perC t d b).Nogoods, ∃ s x, stateF t.Vars s = true ∧ n = (fS s 0, distP b x) ∧ keepP b x ∧ 0 ≤ x := fun n hn => by
    obtain ⟨i, s, h1, h2, h3⟩ := per_mem.1 hn
    have hlt := (List.getElem?_eq_some_iff.1 h1).1
    have hx : d[i]? = some (d[i]'(by rw [hd.g.len]; exact hlt)) := List.getElem?_eq_getElem _
    rw [getD_at hx] at h2 h3
    exact ⟨s, _, (allF_mem t s).1 (List.mem_of_getElem? h1), h3, h2, (hd.g.ok i s _ h1 hx).1⟩
  refine ⟨b0, by show b ≤ _; omega, by omega, fun n hn => ?_, fun n hn => ?_, fun n hn => ?_, fun n hn hb => ?_, fun n hn hb => ?_⟩
  · obtain ⟨s, x, h1, rfl, -, -⟩ := hat n hn
    exact fS_prop h1
  · obtain ⟨s, x, h1, rfl, -, -⟩ := hat n hn
    have hp := fS_prop h1
    have hpr := (prop_vf hp).2.2
    unfold frmF
    rw [propF_vF' hp, Bool.true_and]
    unfold limF
    refine List.all_eq_true.2 fun f hf => decide_eq_true ?_
    obtain ⟨g1, g2⟩ := hpr f hf
    have : t.Vars.getD f.1.toNat 0 ≤ 64 := by
      rw [List.getD_eq_getElem?_getD]
      cases hg : t.Vars[f.1.toNat]? with
      | none => simp
      | some n => exact (hdom.dom n (List.mem_of_getElem? hg)).2
    exact ⟨by omega, by omega⟩
  · obtain ⟨s, x, -, rfl, -, h0⟩ := hat n hn
    show 0 ≤ distP b x
    unfold distP
    split <;> omega
  · obtain ⟨s, x, -, rfl, hk, h0⟩ := hat n hn
    have hb' : 0 ≤ b := hb
    show distP b x < b
    unfold distP
    rw [if_neg (by omega)]
    have := hk.2
    omega
  · obtain ⟨s, x, -, rfl, -, -⟩ := hat n hn
    have hb' : b < 0 := hb
    show distP b x = 0
    unfold distP
    rw [if_pos hb']
theorem per_claims {t : GTask} {d : List Int} {b : Int} {i : Nat} {s : List Int} {x z : Int} (hi : (allF t)[i]? = some s) (hx : d[i]? = some x) (hk : keepP b x) (hz : distP b x ≤ z) : claimsF (perC t d b).Nogoods s z = true := by
  unfold claimsF
  refine List.any_eq_true.2 ⟨(fS s 0, distP b x), per_mem.2 ⟨i, s, hi, by rw [getD_at hx]; exact hk, by rw [getD_at hx]⟩, ?_⟩
  rw [decide_eq_true hz, (holds_fS rfl).2 rfl]; rfl
theorem per_acc {t : GTask} (h : GenP t) {d : List Int} (hd : DFix t d) {b : Int} (hinit : ∀ n ∈ (perC t d b).Nogoods, holdsF t.Init n.1 = false) : Acc t (perC t d b) := by
  have hgood := h.good
  have hal := h.st24
  refine ⟨hinit, fun hb s hs hh => ?_, fun n hn o ho hsk s hs hi => ?_⟩
  · obtain ⟨i, hi⟩ := List.getElem?_of_mem hs
    have hlt := (List.getElem?_eq_some_iff.1 hi).1
    have hx : d[i]? = some (d[i]'(by rw [hd.g.len]; exact hlt)) := List.getElem?_eq_getElem _
    have hx0 := (hd.g.ok i s _ hi hx).2.2 hh
    rw [hx0] at hx
    have hb' : b ≠ 0 := hb
    exact per_claims hi hx ⟨by decide, by omega⟩ (by unfold distP; split <;> omega)
  · obtain ⟨i', s', h1, h2, rfl⟩ := per_mem.1 hn
    have hlt' := (List.getElem?_eq_some_iff.1 h1).1
    obtain ⟨x', hx'⟩ : ∃ x, d[i']? = some x := ⟨_, List.getElem?_eq_getElem (by rw [hd.g.len]; exact hlt')⟩
    rw [getD_at hx'] at h2 hsk ⊢
    rw [inF, Bool.and_eq_true] at hi
    have hst := (allF_mem t s).1 hs
    have hst' := (allF_mem t s').1 (List.mem_of_getElem? h1)
    have hnx := next_state hgood hst ho
    have heq : nextF s o = s' := (holds_fS (by rw [(stateF_st hnx).len, (stateF_st hst').len])).1 hi.2
    obtain ⟨i, hii⟩ := List.getElem?_of_mem hs
    have hlt := (List.getElem?_eq_some_iff.1 hii).1
    obtain ⟨y, hy⟩ : ∃ x, d[i]? = some x := ⟨_, List.getElem?_eq_getElem (by rw [hd.g.len]; exact hlt)⟩
    obtain ⟨x0, x1, -⟩ := hd.g.ok i' s' x' h1 hx'
    obtain ⟨y0, y1, -⟩ := hd.g.ok i s y hii hy
    have hx1 : x' < infD := by have := h2.1; omega
    have hstep := hd.step i i' s o x' y hii ho hi.1 (by rw [heq]; exact h1) hx' hy hx1
    have hcost := good_cost hgood ho
    have hbnd := hd.g.bnd x' (List.mem_of_getElem? hx') h2.1
    have hfn := finN_le d
    have hdl := hd.g.len
    unfold infD at hx1 hstep
    by_cases hb : 0 ≤ b
    · have hsk' : ¬ (0 ≤ b ∧ b ≤ distP b x' + o.Cost) := of_decide_eq_false hsk
      have hdx : distP b x' = x' := by unfold distP; rw [if_neg (by omega)]
      rw [hdx] at hsk'
      have hdo : distO (perC t d b) (fS s' 0, distP b x') o = x' + o.Cost := by
        unfold distO
        rw [if_pos (show 0 ≤ (perC t d b).Bound from hb)]
        show distP b x' + o.Cost = _
        rw [hdx]
      rw [hdo]
      exact per_claims hii hy ⟨by unfold infD; omega, by omega⟩ (by unfold distP; rw [if_neg (by omega)]; omega)
    · have hdo : distO (perC t d b) (fS s' 0, distP b x') o = 0 := by
        unfold distO
        rw [if_neg (show ¬ 0 ≤ (perC t d b).Bound from hb)]
      rw [hdo]
      exact per_claims hii hy ⟨by unfold infD; omega, fun hh => hb hh.1⟩ (by unfold distP; rw [if_pos (by omega)]; exact Int.le_refl _)
theorem guardP {γ : Type} {b1 b2 : Bool} {K : Unit ⊕ Bool → Option γ} {x : Option γ} {m : Int} (h1 : b1 = true → b2 = false → K (.inl ()) = x) (h2 : K (.inr true) = x) : ob1 (ob1 (some b1) (fun z9 => sel (!z9) (ob1 (some true) (fun z14 => some (.inr z14))) (ob1 (some m) (fun _ => sel b2 (ob1 (some true) (fun z13 => some (.inr z13))) (ob1 (some true) (fun z11 => sel (!z11) (ob1 (some true) (fun z12 => some (.inr z12))) (some (.inl ()))))))) : Option (Unit ⊕ Bool)) K = x := by
  cases b1
  · exact h2
  · cases b2
    · exact h1 rfl rfl
    · exact h2
theorem perfect_true (g : Nat) (hg : 1000000000000000000 ≤ g) (t : GTask) (ht : ShT t) (bd : Int) : M_l31_CheckerPerfect g t bd = some true := by
  have hg70 : 70 ≤ g := Nat.le_trans (by decide) hg
  have aw := awake_eq g hg70
  rw [M_l31_CheckerPerfect, aw, gentle_eq t ht, many_eq t.Vars ht.vars 24 (by decide)]
  refine guardP (m := manyF 24 t.Vars 1) (fun hge hm => ?_) rfl
  have hG := gentle_gen hge
  have hsm := hG.small
  have hgood := hG.good
  have hm24 : manyF 24 t.Vars 1 ≤ 24 := by
    have := of_decide_eq_false hm
    omega
  have hst24 : (allF t).length ≤ 24 := by
    have key : ∀ (r : List Int) (out : List (List Int)), (∀ k ∈ r, 2 ≤ k ∧ k ≤ 4) → out.length ≤ 24 → manyF 24 r out.length ≤ 24 → (statesG r out).length ≤ 24 := by
      intro r
      induction r with
      | nil => intro out _ hl _; exact hl
      | cons k r ih =>
        intro out hk hl hm
        obtain ⟨k1, k2⟩ := hk k (List.mem_cons_self ..)
        have hmin : min (max k 0) ((24 : Int) + 1) = k := by omega
        rw [manyF, hmin] at hm
        have hb : ¬ ((out.length : Int) * k > 24) := fun h => by rw [if_pos h] at hm; omega
        rw [if_neg hb] at hm
        obtain ⟨m, rfl⟩ : ∃ m : Nat, k = m := ⟨k.toNat, by omega⟩
        have hlen : (out.flatMap fun s => extF s m 0).length = out.length * m := flat_ext_len m out
        have hcast : (out.length : Int) * (m : Int) = ((out.length * m : Nat) : Int) := by rw [Int.natCast_mul]
        rw [statesG, Int.toNat_natCast]
        exact ih _ (fun u hu => hk u (List.mem_cons_of_mem _ hu)) (by rw [hlen]; omega) (by rw [hlen, ← hcast]; exact hm)
    exact key t.Vars [[]] hG.dom (by decide) hm24
  have h : GenP t := ⟨hG, hst24⟩
  obtain ⟨d, e1, hd⟩ := fix_eq hsm g hg []
  obtain ⟨b, hb⟩ : ∃ b, max (-1) (min bd 60) = b := ⟨_, rfl⟩
  have b0 : -1 ≤ b := by omega
  have b1 : b ≤ 60 := by omega
  have hcp := per_cert h hd b0 b1
  have hal := h.st24
  have hdl := hd.g.len
  have hvars := hG.vars
  have hsl : ∀ s ∈ allF t, s.length ≤ 1000 := fun s hs => by rw [(stateF_st ((allF_mem t s).1 hs)).len]; omega
  have hper : M_r31_Perfect g t b = some (perC t d b) := by
    rw [M_r31_Perfect, e1, ob1_some, states_eq t hsm, ob1_some, M_r31_Perfect_L2_eq b d (allF t) [] (by omega)]
    have := per2 hdl b (allF t) 0 [] rfl hsl (by simp; omega)
    rw [List.nil_append] at this
    exact this
  have hinit : stateF t.Vars t.Init = true := by
    unfold goodF at hgood
    simp only [Bool.and_eq_true] at hgood
    exact hgood.2.2.1
  obtain ⟨k, k1, k2⟩ := rank_eq hsm hinit
  obtain ⟨x, hx⟩ : ∃ x, d[k]? = some x := ⟨_, List.getElem?_eq_getElem (by rw [hd.g.len]; exact (List.getElem?_eq_some_iff.1 k2).1)⟩
  have hbest : M_b_Best g t = some x := by
    rw [M_b_Best, e1, ob1_some, k1, ob1_some, ix_at hx]
  have hplen : (perC t d b).Nogoods.length ≤ 24 := Nat.le_trans (pN_len b d (allF t) 0) hal
  have hsc : ShC (perC t d b) := ⟨by show _ ≤ _; omega, fun n hn => by
    have := propF_len' (hcp.prop n hn)
    show _ ≤ _; omega⟩
  have hver := verify_eq t ht (perC t d b) hsc 1048576 g hg70
  have hx0 := (hd.g.ok k t.Init x k2 hx).1
  have hx1 := (hd.g.ok k t.Init x k2 hx).2.1
  have hyes : ¬ keepP b x → verF t (perC t d b) 1048576 = .nil := fun hk => (ver_okP h hplen).2 ⟨hcp, per_acc h hd fun n hn => by
    rw [Bool.eq_false_iff]
    intro hh
    obtain ⟨i, s, h1, h2, rfl⟩ := per_mem.1 hn
    have hs := (allF_mem t s).1 (List.mem_of_getElem? h1)
    have : t.Init = s := (holds_fS (by rw [(stateF_st hinit).len, (stateF_st hs).len])).1 hh
    subst this
    have := place_one hgood h1 k2
    subst this
    rw [getD_at hx] at h2
    exact hk h2⟩
  have hno : keepP b x → verF t (perC t d b) 1048576 = .no 20 := fun hk => by
    have hany : ((perC t d b).Nogoods.any fun n => holdsF t.Init n.1) = true := List.any_eq_true.2 ⟨(fS t.Init 0, distP b x), per_mem.2 ⟨k, t.Init, k2, by rw [getD_at hx]; exact hk, by rw [getD_at hx]⟩, (holds_fS rfl).2 rfl⟩
    rw [verF, whereF_okP h hplen, refF, (good_check t).1 hgood]
    simp only
    rw [(properF_nil t.Vars _).2 hcp]
    simp only
    rw [refC, if_pos hany]
  rw [osum_inl, M_b_Clip, ob1_some, hb, hper, ob1_some, hbest, ob1_some, hver, ob1_some, sel_dec]
  have hE : ∀ z : Er, (z = .nil → erM z (some true) (fun _ => some false) = some true) := fun z hz => by rw [hz]; rfl
  have hI : ∀ z : Er, (z = .no 20 → ob1 (M_b_Is z 20) (fun z20 => some z20) = some true) := fun z hz => by rw [hz]; rfl
  by_cases hb0 : b < 0
  · rw [if_pos hb0]
    by_cases hi : x = 1125899906842624
    · rw [show (x == 1125899906842624) = true from by simp [hi], sel_tt]
      exact hE _ (hyes fun hk => hk.1 hi)
    · rw [show (x == 1125899906842624) = false from by simp [hi], sel_ff, sel_dec, if_neg (by omega)]
      exact hI _ (hno ⟨hi, by omega⟩)
  · rw [if_neg hb0, sel_dec, if_pos (by omega), sel_dec]
    by_cases hxb : x ≥ b
    · rw [if_pos hxb]
      exact hE _ (hyes fun hk => hk.2 ⟨by omega, hxb⟩)
    · rw [if_neg hxb]
      exact hI _ (hno ⟨by unfold infD; omega, by omega⟩)
end Go.Proofs.YtcpajbglcgbolaaGreat.Am
/- Opening arguments: slices of numbers, of facts, of nogoods, a certificate. -/
namespace Go.Proofs.YtcpajbglcgbolaaGreat
open Go.RowKit Go.ChangeShapes Go.WideShapes Go.Deep Go.Joins

def I64 (x : Int) : Prop := -9223372036854775808 ≤ x ∧ x ≤ 9223372036854775807
theorem I64.of {x : Int} (h : (Lit.int .i64 x).wf = true) : I64 x := by
  have := bounds_i64 h
  exact this

section
variable {H : Type} {enc : TypeId × Value → H} {P : Program} {w : World} {base : Nat} {spare : Nat → Bool} {held : Bool}

/-- within the form's reach -/
def Sized (P : Program) (t : TypeId) (d : DataW H) : Prop := ∀ n ∈ d.weights P t, n ≤ reachBytes
theorem sized_arg {ts : List TypeId} {ds : List (DataW H)} (h : (DataW.weightsEach P ts ds).all (· ≤ reachBytes) = true) {j : Nat} {t : TypeId} {d : DataW H} (ht : ts[j]? = some t) (hd : ds[j]? = some d) : Sized P t d :=
  fun n hn => of_decide_eq_true (List.all_eq_true.1 h n (DataW.weights_mem_each ht hd n hn))
theorem sized_field {t : TypeId} {fs : Array Field} {parts : List (DataW H)} (h : Sized P t (.agg parts)) (hu : P.underlying t = some (.struct fs)) {j : Nat} {f : Field} {d : DataW H} (hf : fs[j]? = some f) (hd : parts[j]? = some d) : Sized P f.type d :=
  fun n hn => h n (by
    simp only [DataW.weights, hu]
    exact DataW.weights_mem_each (j := j) (by simp [List.getElem?_map, hf]) hd n hn)
theorem weightsAll_mem {e : TypeId} : ∀ {l : List (DataW H)} {d : DataW H}, d ∈ l → ∀ n ∈ d.weights P e, n ∈ DataW.weightsAll P e l
  | x :: l, d, hd, n, hn => by
    simp only [DataW.weightsAll, List.mem_append]
    rcases List.mem_cons.1 hd with rfl | h
    · exact Or.inl hn
    · exact Or.inr (weightsAll_mem h n hn)
theorem sized_elem {t e : TypeId} {elems sp : List (DataW H)} (h : Sized P t (.slice elems sp)) (hu : P.underlying t = some (.slice e)) {d : DataW H} (hd : d ∈ elems) : Sized P e d :=
  fun n hn => h n (by
    simp only [DataW.weights, hu, List.mem_cons, List.mem_append]
    exact Or.inr (Or.inl (weightsAll_mem hd n hn)))
theorem sized_len {t e : TypeId} {elems sp : List (DataW H)} (h : Sized P t (.slice elems sp)) (hu : P.underlying t = some (.slice e)) : elems.length * P.bytesOf e ≤ 140737488355328 := by
  have h1 := h ((elems.length + sp.length) * P.bytesOf e) (by simp [DataW.weights, hu])
  have h2 : elems.length * P.bytesOf e ≤ (elems.length + sp.length) * P.bytesOf e := Nat.mul_le_mul_right _ (by omega)
  have h3 : reachBytes ≤ 140737488355328 := by decide
  omega

end

theorem spot_of_cell {w : World} {p : Addr} {v : Value} (h : w.cell? p = some v) : p.spot = none := by
  unfold World.cell? at h
  split at h
  · split at h
    · cases h
    · rename_i hs; simpa using hs
  · cases h
theorem addr_of_cell {w : World} {a : Addr} {k : Nat} {v : Value} (h0 : ∃ u, w.cell? (a.add 0) = some u) (h : w.cell? (a.add k) = some v) : a = ⟨a.block, a.off, none⟩ ∧ w.cell? ⟨a.block, a.off + k, none⟩ = some v := by
  obtain ⟨u, hu⟩ := h0
  have hs := spot_of_cell hu
  obtain ⟨b, off, sp⟩ := a
  simp [Addr.add] at hs
  subst hs
  refine ⟨rfl, ?_⟩
  rw [← h]
  congr 1
  unfold Addr.add
  split
  · subst k; rfl
  · rfl

theorem list_of {α : Type} (n : Nat) (R : Nat → α → Prop) (h : ∀ i, i < n → ∃ x, R i x) : ∃ l : List α, l.length = n ∧ ∀ k x, l[k]? = some x → R k x := by
  induction n with
  | zero => exact ⟨[], rfl, fun k x hx => by simp at hx⟩
  | succ n ih =>
    obtain ⟨l, hl, hr⟩ := ih (fun i hi => h i (by omega))
    obtain ⟨x, hx⟩ := h n (by omega)
    refine ⟨l ++ [x], by simp [hl], fun k y hy => ?_⟩
    by_cases hk : k < n
    · rw [List.getElem?_append_left (by omega)] at hy
      exact hr k y hy
    · rw [List.getElem?_append_right (by omega)] at hy
      have hk' : k - l.length = 0 := by
        have := (List.getElem?_eq_some_iff.1 hy).1
        simp at this
        omega
      rw [hk'] at hy
      simp at hy
      subst hy
      obtain rfl : k = n := by omega
      exact hx

variable {H : Type} {enc : TypeId × Value → H} {w : World} {base : Nat} {spare : Nat → Bool} {held : Bool}
end Go.Proofs.YtcpajbglcgbolaaGreat
/- Opening arguments for the abstract machine: readers that compose. -/
namespace Go.Proofs.YtcpajbglcgbolaaGreat.Am
open Go.RowKit Go.ChangeShapes Go.WideShapes Go.Deep Go.Joins

/-- nothing is owned at the start -/
abbrev mZ : MM := mO (fun _ => False)
theorem noZ (b : Nat) : ¬ Owned nov mZ b := fun h => owned_nov.1 h

section
variable {H : Type} {enc : TypeId × Value → H} {P : Program} {w : World} {base : Nat} {spare : Nat → Bool} {held : Bool}
/-- cells that stand for the values -/
def CellsRv (w : World) (es : List AV) (cs : List Value) : Prop := es.length = cs.length ∧ (∀ (j : Nat) (y : AV) (u : Value), es[j]? = some y → cs[j]? = some u → RV w nov mZ y u ∧ u.oneCell' = true) ∧ ∀ y ∈ es, Fr y
/-- data of type t read as an α -/
def Opens (enc : TypeId × Value → H) (P : Program) (w : World) (base : Nat) (spare : Nat → Bool) (held : Bool) (t : TypeId) {α : Type} (en : α → List AV) (R : α → Prop) : Prop :=
  ∀ (fuel : Nat) (cs : List Value) (x : DataW H × List MemPlace), DataW.trod enc P w base spare held fuel t cs = some x → Sized P t x.1 → ∃ a, R a ∧ CellsRv w (en a) cs

theorem cells_one1 {y : AV} {u : Value} (h : RV w nov mZ y u) (h1 : u.oneCell' = true) (hf : Fr y) : CellsRv w [y] [u] := by
  refine ⟨rfl, fun j z v hz hv => ?_, fun z hz => by simp at hz; subst hz; exact hf⟩
  cases j with
  | zero => simp at hz hv; subst hz hv; exact ⟨h, h1⟩
  | succ j => simp at hz
theorem opens_int {t : TypeId} {k : IntKind} (ht : P.underlying t = some (.int k)) : Opens enc P w base spare held t (fun z : Int => [.c (.int k z)]) (fun z => (Lit.int k z).wf = true) := by
  intro fuel cs x h _
  obtain ⟨z, rfl, _, wz⟩ := DataW.trod_int ht h
  exact ⟨z, wz, cells_one1 (.c _) rfl (.c _)⟩
theorem opens_slice {t e : TypeId} {α : Type} {en : α → List AV} {R : α → Prop} {sz by_ : Nat} (ht : P.underlying t = some (.slice e)) (hc : P.cellsOf e = sz) (hb : P.bytesOf e = by_) (hby : 0 < by_) (hsz : 0 < sz) (he : Opens enc P w base spare held e en R) :
    Opens enc P w base spare held t (fun l : List α => [.sl sz (l.map en)]) (fun l => l.length * by_ ≤ 140737488355328 ∧ ∀ x ∈ l, R x) := by
  intro fuel cs x h hs
  rcases open_slice ht h with ⟨rfl, _⟩ | ⟨a, len, cap, m, n, D, Pl, rfl, _, hl, hm, hmm, rfl, hi⟩
  · refine ⟨[], ⟨by simp, by simp⟩, cells_one1 ?_ rfl (.sl (fun e he => by cases he))⟩
    exact RV.sl (l := []) (b := 0) (off := 0) (f := fun _ _ => undef) (fun h => absurd rfl h) (Nat.zero_le _) (by simp) (fun k e h => by simp at h) (fun k j e x h => by simp at h) (fun k j e x h => by simp at h) (fun e he => by cases he)
  · have hlen := sized_len hs ht
    rw [hb] at hlen
    simp only [List.length_map, List.length_range] at hlen
    have hml : len ≤ m := by rw [hmm]; split <;> omega
    have hcell : ∀ i, i < len → ∃ z : α, R z ∧ ∃ cs', CellsRv w (en z) cs' ∧ cs'.length = sz ∧ ∀ j, j < sz → w.cell? (a.add (i * sz + j)) = cs'[j]? := by
      intro i hi'
      obtain ⟨cs', hcc, ht'⟩ := hi i (by omega)
      rw [hc] at hcc
      obtain ⟨z, hz, hcr⟩ := he n cs' _ ht' (sized_elem hs ht (List.mem_map.2 ⟨i, by simpa using hi', rfl⟩))
      obtain ⟨_, hcl', hat⟩ := World.cells?_some hcc
      exact ⟨z, hz, cs', hcr, hcl', fun j hj => by rw [← hat j hj, Go.Deep.add_add]⟩
    obtain ⟨l, hl', hat⟩ := list_of len _ hcell
    have hR : ∀ x ∈ l, R x := fun x hx => by
      obtain ⟨k, hk⟩ := List.getElem?_of_mem hx
      exact (hat k x hk).1
    have hfr : FrL (l.map en) := by
      intro e he
      obtain ⟨x, hx, rfl⟩ := List.mem_map.1 he
      obtain ⟨k, hk⟩ := List.getElem?_of_mem hx
      obtain ⟨_, cs', hcr, _⟩ := hat k x hk
      exact hcr.2.2
    refine ⟨l, ⟨by rw [hl']; exact hlen, hR⟩, cells_one1 ?_ rfl (.sl hfr)⟩
    have key : ∀ (k j : Nat) (e : List AV) (y : AV), (l.map en)[k]? = some e → e[j]? = some y → e.length = sz ∧ ∃ u, w.cell? ⟨a.block, a.off + (k * sz + j), none⟩ = some u ∧ u.oneCell' = true ∧ RV w nov mZ y u ∧ a = ⟨a.block, a.off, none⟩ ∧ a.block < w.heap.size := by
      intro k j e y hk hj
      rw [List.getElem?_map] at hk
      cases hx : l[k]? with
      | none => rw [hx] at hk; cases hk
      | some z =>
        rw [hx] at hk
        simp at hk
        subst hk
        obtain ⟨_, cs', ⟨c1, c2, _⟩, c4, c5⟩ := hat k z hx
        have hjl : j < sz := by rw [← c4, ← c1]; exact (List.getElem?_eq_some_iff.1 hj).1
        have hcj := c5 j hjl
        have hget : cs'[j]? = some (cs'[j]'(by omega)) := List.getElem?_eq_getElem _
        rw [hget] at hcj
        obtain ⟨r1, r2⟩ := c2 j y _ hj hget
        have h0 : 0 < len := by have := (List.getElem?_eq_some_iff.1 hx).1; omega
        obtain ⟨_, _, cs0, ⟨_, _, _⟩, d4, d5⟩ := hcell 0 h0
        have hz0 := d5 0 hsz
        rw [List.getElem?_eq_getElem (by omega)] at hz0
        obtain ⟨e1, e2⟩ := addr_of_cell ⟨_, by simpa using hz0⟩ hcj
        exact ⟨by rw [c1, c4], _, e2, r2, r1, e1, lt_of_cell (p := ⟨a.block, a.off + (k * sz + j), none⟩) e2⟩
    have hlen2 : (l.map en).length = len := by simp [hl']
    have := RV.sl (w := w) (vs := nov) (m := mZ) (sz := sz) (l := l.map en) (A := some a) (cap := cap) (b := a.block) (off := a.off) (f := fun k j => (w.cell? ⟨a.block, a.off + (k * sz + j), none⟩).getD undef)
      (fun hne => ?_) (by omega) (by rw [hlen2]; exact Nat.le_trans (Nat.le_mul_of_pos_right _ hby) hlen) (fun k e hk => ?_) (fun k j e y hk hj => ?_) (fun k j e y hk hj => ?_) hfr
    · rw [hlen2] at this
      exact this
    · have h0 : 0 < (l.map en).length := List.length_pos_iff.2 hne
      have hk := List.getElem?_eq_getElem h0
      obtain ⟨x0, hx0, hx0'⟩ : ∃ x0, l[0]? = some x0 ∧ (l.map en)[0] = en x0 := by
        have h1 : 0 < l.length := by simpa using h0
        exact ⟨l[0], List.getElem?_eq_getElem h1, by simp⟩
      obtain ⟨_, cs', ⟨c1, _, _⟩, c4, _⟩ := hat 0 x0 hx0
      have hel : 0 < ((l.map en)[0]).length := by rw [hx0', c1, c4]; exact hsz
      obtain ⟨_, _, _, _, _, q1, q2⟩ := key 0 0 _ _ hk (List.getElem?_eq_getElem hel)
      exact ⟨by rw [← q1], noZ _, q2⟩
    · rw [List.getElem?_map] at hk
      cases hx : l[k]? with
      | none => rw [hx] at hk; cases hk
      | some z =>
        rw [hx] at hk
        simp at hk
        subst hk
        obtain ⟨_, cs', ⟨c1, _, _⟩, c4, _⟩ := hat k z hx
        rw [c1, c4]
    · obtain ⟨_, u, q1, q2, _⟩ := key k j e y hk hj
      rw [q1]
      exact ⟨rfl, q2⟩
    · obtain ⟨_, u, q1, _, q3, _⟩ := key k j e y hk hj
      rw [q1]
      exact q3

/-- fields from one on -/
def OpensF (enc : TypeId × Value → H) (P : Program) (w : World) (base : Nat) (spare : Nat → Bool) (held : Bool) (fs : List Field) (off tot : Nat) {α : Type} (en : α → List AV) (R : α → Prop) : Prop :=
  ∀ (fuel : Nat) (cs : List Value) (xs : List (DataW H × List MemPlace)), cs.length = tot → xs.length = fs.length → (∀ (i : Nat) (f : Field), fs[i]? = some f → DataW.trod enc P w base spare held fuel f.type ((cs.drop f.offset).take (P.cellsOf f.type)) = xs[i]?) →
    (∀ (i : Nat) (f : Field) (x : DataW H × List MemPlace), fs[i]? = some f → xs[i]? = some x → Sized P f.type x.1) → ∃ a, R a ∧ CellsRv w (en a) (cs.drop off)
theorem cells_append {a b : List AV} {xs ys : List Value} (h1 : CellsRv w a xs) (h2 : CellsRv w b ys) : CellsRv w (a ++ b) (xs ++ ys) := by
  refine ⟨by rw [List.length_append, List.length_append, h1.1, h2.1], fun j y u hy hu => ?_, fun y hy => ?_⟩
  · rcases Nat.lt_or_ge j a.length with hlt | hge
    · rw [List.getElem?_append_left hlt] at hy
      rw [List.getElem?_append_left (by rw [← h1.1]; exact hlt)] at hu
      exact h1.2.1 j y u hy hu
    · rw [List.getElem?_append_right hge] at hy
      rw [List.getElem?_append_right (by rw [← h1.1]; exact hge)] at hu
      rw [h1.1] at hy
      exact h2.2.1 _ y u hy hu
  · rcases List.mem_append.1 hy with h | h
    · exact h1.2.2 y h
    · exact h2.2.2 y h
theorem opensF_last {f : Field} {off tot : Nat} {α : Type} {en : α → List AV} {R : α → Prop} (ho : f.offset = off) (htot : off + P.cellsOf f.type = tot) (h : Opens enc P w base spare held f.type en R) : OpensF enc P w base spare held [f] off tot en R := by
  intro fuel cs xs hcl hx ht hs
  obtain ⟨x, rfl⟩ := List.length_eq_one_iff.1 hx
  have h1 := ht 0 f rfl
  obtain ⟨a, ha, hc⟩ := h fuel _ x h1 (hs 0 f x rfl rfl)
  refine ⟨a, ha, ?_⟩
  rw [ho, List.take_of_length_le (by simp; omega)] at hc
  exact hc
theorem opensF_cons {f : Field} {fs : List Field} {off off' tot : Nat} {α β : Type} {en : α → List AV} {R : α → Prop} {en' : β → List AV} {R' : β → Prop} (ho : f.offset = off) (hoff : off + P.cellsOf f.type = off') (h : Opens enc P w base spare held f.type en R) (h' : OpensF enc P w base spare held fs off' tot en' R') :
    OpensF enc P w base spare held (f :: fs) off tot (fun p : α × β => en p.1 ++ en' p.2) (fun p => R p.1 ∧ R' p.2) := by
  intro fuel cs xs hcl hx ht hs
  cases xs with
  | nil => simp at hx
  | cons x xs =>
    obtain ⟨a, ha, hc⟩ := h fuel _ x (ht 0 f rfl) (hs 0 f x rfl rfl)
    obtain ⟨b, hb, hc'⟩ := h' fuel cs xs hcl (by simpa using hx) (fun i g hg => by simpa using ht (i + 1) g (by simpa using hg)) (fun i g y hg hy => hs (i + 1) g y (by simpa using hg) (by simpa using hy))
    refine ⟨(a, b), ⟨ha, hb⟩, ?_⟩
    rw [ho] at hc
    have : cs.drop off = (cs.drop off).take (P.cellsOf f.type) ++ cs.drop off' := by
      rw [← hoff, ← List.drop_drop, List.take_append_drop]
    rw [this]
    exact cells_append hc hc'
theorem opens_struct {t : TypeId} {fs : Array Field} {α : Type} {en : α → List AV} {R : α → Prop} (ht : P.underlying t = some (.struct fs)) (h : OpensF enc P w base spare held fs.toList 0 (P.cellsOf t) en R) : Opens enc P w base spare held t en R := by
  intro fuel cs x hx hs
  obtain ⟨xs, n, _, rfl, hcl, hxl, hf⟩ := DataW.trod_struct ht hx
  obtain ⟨a, ha, hc⟩ := h n cs xs hcl (by simpa using hxl) (fun i f hi => hf i f (by simpa using hi)) (fun i f y hi hy => sized_field hs ht (j := i) (by simpa using hi) (by simp [List.getElem?_map, hy]))
  exact ⟨a, ha, by simpa using hc⟩

/-- a struct that came in -/
theorem agg_rv {es : List AV} {us : Array Value} (h : CellsRv w es us.toList) : RV w nov mZ (.agg es) (.agg us) :=
  .agg (by rw [h.1]; simp) (fun j y u hy hu => (h.2.1 j y u hy (by simpa using hu)).1)
end
end Go.Proofs.YtcpajbglcgbolaaGreat.Am
/- From a walk to a law's row: the arguments read behind the call as before, the result is true. -/
namespace Go.Proofs.YtcpajbglcgbolaaGreat
open Go.RowKit Go.WideShapes Go.ChangeShapes Go.ChangeAt
section
variable {H : Type} {enc : TypeId × Value → H} {P : Program}
theorem post_of_below {f : Func} {s : ChangeSpec} {apart fresh handsOn again : Bool} {W W' : World} {args : Array Value} {v : Value} {ds gs : List (DataW H)} {before pa pv : List MemPlace}
    (hW : DataW.Whole enc P f.params.toList s.vars apart W args.toList ds gs before)
    (hres : ∀ (b : Nat) (sp : Nat → Bool) (hd : Bool), DataW.TrodAll enc P W' b sp hd f.resultTypes.toList (v.resultList f.resultTypes.size) (s.fn H (ds ++ gs)).results [])
    (hargs : ∀ sp : Nat → Bool, (∀ p ∈ before, sp p.block = true) → DataW.TrodAll enc P W' 0 sp true f.params.toList args.toList (s.fn H (ds ++ gs)).args pa)
    (hvars : ∀ sp : Nat → Bool, (∀ p ∈ before, sp p.block = true) → DataW.TrodVars enc P W' sp s.vars (s.fn H (ds ++ gs)).vars pv)
    (hps : before = pa ++ pv) (hb : Below W.heap.size W W')
    (hok : ∀ (j : Nat) (t : TypeId) (r : Value), f.resultTypes[j]? = some t → (v.resultList f.resultTypes.size)[j]? = some r → Value.okWide P W' .any 0 t r) :
    s.post enc P f apart fresh handsOn again W args v W' := by
  have hlt : ∀ p ∈ before, p.block < W.heap.size := fun p hp => hW.lt p hp
  have hold : ∀ p ∈ before, (fun b => decide (b < W.heap.size)) p.block = true := fun p hp => by simpa using hlt p hp
  refine ⟨ds, gs, before, [], pa, pv, hW, hres _ _ _, hargs _ hold, hvars _ hold, World.keptBut_mono (fun p hp => ⟨hp, ?_⟩) (hb.frame (· ∈ before)), fun _ => ?_⟩
  · rw [hps, List.mem_append] at hp
    exact Or.inr hp
  · obtain ⟨_, _, _, _, _, hz, hn⟩ := hW
    refine ⟨hok, _, _, ([] ++ pa) ++ pv, ⟨[] ++ pa, pv, trodAll_append (hargs _ (fun _ _ => rfl)) (hres _ _ _), hvars _ (fun _ _ => rfl), rfl, ?_, ?_⟩, ?_⟩
    · intro b off hp
      have hin : MemPlace.cell b off ∈ before := by rw [hps]; simpa using hp
      rw [hb.frozen (hlt _ hin)]
      exact hz b off hin
    · intro ha
      have := hn ha
      rw [hps] at this
      simpa using this
    · intro p hp _
      rw [hps]
      simpa using hp

theorem trodAll_keep (hl : laidOutB P = true) {W W' : World} (hb : Below W.heap.size W W') (sp : Nat → Bool) (ts : List TypeId) : ∀ (vs : List Value) (ds : List (DataW H)) (ps : List MemPlace), (∀ t ∈ ts, P.readableRec t = true ∧ t < P.types.size) →
    DataW.TrodAll enc P W 0 (fun _ => true) true ts vs ds ps → (∀ x ∈ ps, x.block < W.heap.size) → (∀ x ∈ ps, sp x.block = true) → DataW.TrodAll enc P W' 0 sp true ts vs ds ps := by
  induction ts with
  | nil =>
    intro vs ds ps _ h _ _
    obtain ⟨rfl, rfl, rfl⟩ := trodAll_nil h
    exact trodAll_mk0
  | cons t ts ih =>
    intro vs ds ps hts h hlt hsp
    obtain ⟨v0, vs0, d0, ds0, p0, q0, rfl, rfl, rfl, h0, r0⟩ := trodAll_cons h
    obtain ⟨hr, hrow⟩ := hts t (by simp)
    exact trodAll_cons_mk (WideElems.Trod_stays hl hr hrow h0 (fun x hx => hb.same (hlt x (by simp [hx]))) (fun x hx => hsp x (by simp [hx])))
      (ih _ _ _ (fun t ht => hts t (by simp [ht])) r0 (fun x hx => hlt x (by simp [hx])) (fun x hx => hsp x (by simp [hx])))

/-- A LAW: it returned true, nothing that was there has turned. -/
theorem law_post (hl : laidOutB P = true) {f : Func} {s : ChangeSpec} {T : TypeId} {W W' : World} {args : Array Value} {ds : List (DataW H)} {before : List MemPlace}
    (hvars : s.vars = []) (hrt : f.resultTypes = #[T]) (hT : P.underlying T = some .bool) (hts : f.params.toList.all (fun t => P.readableRec t && decide (t < P.types.size)) = true)
    (hW : DataW.Whole enc P f.params.toList s.vars false W args.toList ds [] before) (hA : DataW.TrodAll enc P W 0 (fun _ => true) true f.params.toList args.toList ds before)
    (e1 : (s.fn H (ds ++ [])).results = [.lit (.bool true)]) (e2 : (s.fn H (ds ++ [])).args = ds) (e3 : (s.fn H (ds ++ [])).vars = []) (hb : Below W.heap.size W W') :
    s.post enc P f false true false false W args (.bool true) W' := by
  have hlt : ∀ x ∈ before, x.block < W.heap.size := fun x hx => hW.lt x hx
  refine post_of_below (pa := before) (pv := []) hW ?_ ?_ ?_ (by simp) hb ?_
  · intro b sp hd
    rw [e1, hrt]
    exact trodAll_cons_mk (shut_bool hT true) trodAll_mk0
  · intro sp hsp
    rw [e2]
    exact trodAll_keep hl hb sp _ _ _ _ (fun t ht => by simpa using List.all_eq_true.1 hts t ht) hA hlt hsp
  · intro sp hsp
    rw [e3, hvars]
    rfl
  · exact ok_one hrt rfl (okWide_bool_mk hT true)
end
end Go.Proofs.YtcpajbglcgbolaaGreat
/- Readers of the arguments of the laws about tasks. -/
namespace Go.Proofs.YtcpajbglcgbolaaGreat.Am
open Go.RowKit Go.ChangeShapes Go.WideShapes Go.Deep Go.Joins
section
variable {H : Type} {enc : TypeId × Value → H} {w : World} {base : Nat} {spare : Nat → Bool} {held : Bool}
theorem opens_conv {P : Program} {t : TypeId} {α β : Type} {en : α → List AV} {en2 : β → List AV} {R : α → Prop} {R2 : β → Prop} (f : α → β) (h : Opens enc P w base spare held t en R) (he : ∀ a, en2 (f a) = en a) (hR : ∀ a, R a → R2 (f a)) : Opens enc P w base spare held t en2 R2 := by
  intro fuel cs x hx hs
  obtain ⟨a, ha, hc⟩ := h fuel cs x hx hs
  exact ⟨f a, hR a ha, by rw [he]; exact hc⟩
theorem opens_str2 {P : Program} {t : TypeId} (ht : P.underlying t = some .string) : Opens enc P w base spare held t (fun s : ByteArray => [.c (.string s)]) (fun s => s.size ≤ 140737488355328) := by
  intro fuel cs x h hsz
  obtain ⟨s, rfl, rfl, -⟩ := DataW.trod_string ht h
  refine ⟨s, ?_, cells_one1 (.c _) rfl (.c _)⟩
  have h1 : s.data.toList.length ≤ 140737488355328 := Nat.le_trans (hsz s.data.toList.length (List.mem_singleton.2 rfl)) (by decide)
  rw [Array.length_toList] at h1
  exact h1
abbrev I64F (p : Fact) : Prop := (Lit.int .i64 p.1).wf = true ∧ (Lit.int .i64 p.2).wf = true
abbrev FactsR (l : List Fact) : Prop := l.length * 16 ≤ 140737488355328 ∧ ∀ p ∈ l, I64F p
abbrev EffR (e : GEffect) : Prop := FactsR e.When
abbrev OpR (o : GOp) : Prop := o.Name.size ≤ 140737488355328 ∧ FactsR o.Pre ∧ o.Effs.length * 40 ≤ 140737488355328 ∧ ∀ e ∈ o.Effs, EffR e
abbrev IntsR (l : List Int) : Prop := l.length * 8 ≤ 140737488355328 ∧ ∀ z ∈ l, (Lit.int .i64 z).wf = true
abbrev TaskR (t : GTask) : Prop := IntsR t.Vars ∧ IntsR t.Init ∧ FactsR t.Goal ∧ t.Ops.length * 72 ≤ 140737488355328 ∧ ∀ o ∈ t.Ops, OpR o
set_option maxRecDepth 100000 in
theorem oFact : Opens enc Tryz.prog w base spare held 63 cF I64F :=
  opens_struct Tryz.underlying63 (opensF_cons (off' := 1) rfl (by kernel_rfl) (opens_int Tryz.underlying3) (opensF_last rfl (by kernel_rfl) (opens_int Tryz.underlying3)))
set_option maxRecDepth 100000 in
theorem oFacts : Opens enc Tryz.prog w base spare held 23 (fun l : List Fact => [.sl 2 (l.map cF)]) FactsR :=
  opens_slice Tryz.underlying23 (by kernel_rfl) (by kernel_rfl) (by decide) (by decide) oFact
set_option maxRecDepth 100000 in
theorem oInts : Opens enc Tryz.prog w base spare held 22 (fun l : List Int => [.sl 1 (l.map cI)]) IntsR :=
  opens_slice Tryz.underlying22 (by kernel_rfl) (by kernel_rfl) (by decide) (by decide) (opens_int Tryz.underlying3)
set_option maxRecDepth 100000 in
theorem oEff : Opens enc Tryz.prog w base spare held 61 cGEffect EffR :=
  opens_conv (fun p : List Fact × (Int × Int) => { When := p.1, Var := p.2.1, Val := p.2.2 : GEffect })
    (opens_struct Tryz.underlying61 (opensF_cons (off' := 1) (en := fun l : List Fact => [AV.sl 2 (l.map cF)]) (R := FactsR) (en' := fun z : Int × Int => [AV.c (.int .i64 z.1)] ++ [AV.c (.int .i64 z.2)]) (R' := fun z : Int × Int => (Lit.int .i64 z.1).wf = true ∧ (Lit.int .i64 z.2).wf = true) rfl (by kernel_rfl) oFacts
      (opensF_cons (off' := 2) (en := fun z : Int => [AV.c (.int .i64 z)]) (R := fun z : Int => (Lit.int .i64 z).wf = true) (en' := fun z : Int => [AV.c (.int .i64 z)]) (R' := fun z : Int => (Lit.int .i64 z).wf = true) rfl (by kernel_rfl) (opens_int Tryz.underlying3) (opensF_last rfl (by kernel_rfl) (opens_int Tryz.underlying3)))))
    (fun _ => rfl) (fun _ h => h.1)
set_option maxRecDepth 100000 in
theorem oOp : Opens enc Tryz.prog w base spare held 59 cGOp OpR :=
  opens_conv (fun p : ByteArray × (Int × (List Fact × List GEffect)) => { Name := p.1, Cost := p.2.1, Pre := p.2.2.1, Effs := p.2.2.2 : GOp })
    (opens_struct Tryz.underlying59 (opensF_cons (off' := 1) (en := fun s : ByteArray => [AV.c (.string s)]) (R := fun s => s.size ≤ 140737488355328) (en' := fun p : Int × (List Fact × List GEffect) => [AV.c (.int .i64 p.1)] ++ ([AV.sl 2 (p.2.1.map cF)] ++ [AV.sl 3 (p.2.2.map cGEffect)])) (R' := fun p : Int × (List Fact × List GEffect) => (Lit.int .i64 p.1).wf = true ∧ (FactsR p.2.1 ∧ (p.2.2.length * 40 ≤ 140737488355328 ∧ ∀ e ∈ p.2.2, EffR e))) rfl (by kernel_rfl) (opens_str2 Tryz.underlying9)
      (opensF_cons (off' := 2) (en := fun z : Int => [AV.c (.int .i64 z)]) (R := fun z : Int => (Lit.int .i64 z).wf = true) (en' := fun p : List Fact × List GEffect => [AV.sl 2 (p.1.map cF)] ++ [AV.sl 3 (p.2.map cGEffect)]) (R' := fun p : List Fact × List GEffect => FactsR p.1 ∧ (p.2.length * 40 ≤ 140737488355328 ∧ ∀ e ∈ p.2, EffR e)) rfl (by kernel_rfl) (opens_int Tryz.underlying3)
        (opensF_cons (off' := 3) (en := fun l : List Fact => [AV.sl 2 (l.map cF)]) (R := FactsR) (en' := fun l : List GEffect => [AV.sl 3 (l.map cGEffect)]) (R' := fun l : List GEffect => l.length * 40 ≤ 140737488355328 ∧ ∀ e ∈ l, EffR e) rfl (by kernel_rfl) oFacts
          (opensF_last rfl (by kernel_rfl) (opens_slice Tryz.underlying57 (by kernel_rfl) (by kernel_rfl) (by decide) (by decide) oEff))))))
    (fun _ => rfl) (fun _ h => ⟨h.1, h.2.2.1, h.2.2.2⟩)
set_option maxRecDepth 100000 in
theorem oTask : Opens enc Tryz.prog w base spare held 26 cGTask TaskR :=
  opens_conv (fun p : List Int × (List Int × (List Fact × List GOp)) => { Vars := p.1, Init := p.2.1, Goal := p.2.2.1, Ops := p.2.2.2 : GTask })
    (opens_struct Tryz.underlying26 (opensF_cons (off' := 1) (en := fun l : List Int => [AV.sl 1 (l.map cI)]) (R := IntsR) (en' := fun p : List Int × (List Fact × List GOp) => [AV.sl 1 (p.1.map cI)] ++ ([AV.sl 2 (p.2.1.map cF)] ++ [AV.sl 4 (p.2.2.map cGOp)])) (R' := fun p : List Int × (List Fact × List GOp) => IntsR p.1 ∧ (FactsR p.2.1 ∧ (p.2.2.length * 72 ≤ 140737488355328 ∧ ∀ o ∈ p.2.2, OpR o))) rfl (by kernel_rfl) oInts
      (opensF_cons (off' := 2) (en := fun l : List Int => [AV.sl 1 (l.map cI)]) (R := IntsR) (en' := fun p : List Fact × List GOp => [AV.sl 2 (p.1.map cF)] ++ [AV.sl 4 (p.2.map cGOp)]) (R' := fun p : List Fact × List GOp => FactsR p.1 ∧ (p.2.length * 72 ≤ 140737488355328 ∧ ∀ o ∈ p.2, OpR o)) rfl (by kernel_rfl) oInts
        (opensF_cons (off' := 3) (en := fun l : List Fact => [AV.sl 2 (l.map cF)]) (R := FactsR) (en' := fun l : List GOp => [AV.sl 4 (l.map cGOp)]) (R' := fun l : List GOp => l.length * 72 ≤ 140737488355328 ∧ ∀ o ∈ l, OpR o) rfl (by kernel_rfl) oFacts
          (opensF_last rfl (by kernel_rfl) (opens_slice Tryz.underlying24 (by kernel_rfl) (by kernel_rfl) (by decide) (by decide) oOp))))))
    (fun _ => rfl) (fun _ h => h)
/-- a struct argument -/
theorem arg_struct {P : Program} {t : TypeId} {fs : Array Field} {α : Type} {en : α → List AV} {R : α → Prop} {r : Reach} {b0 : Nat} {v : Value} {d : DataW H} {p : List MemPlace} (ht : P.underlying t = some (.struct fs)) (hv : Value.okWide P w r b0 t v) (ho : Opens enc P w base spare held t en R) (h : DataW.Trod enc P w base spare held t v d p) (hs : Sized P t d) :
    ∃ a, R a ∧ RV w nov mZ (.agg (en a)) v := by
  obtain ⟨cs, rfl, hsz⟩ := okWide_struct ht hv
  obtain ⟨fuel, hf⟩ := h
  obtain ⟨a, ha, hc⟩ := ho fuel _ _ hf hs
  exact ⟨a, ha, agg_rv hc⟩
end
theorem TaskR.sh {t : GTask} (h : TaskR t) : ShT t := by
  obtain ⟨⟨h1, -⟩, ⟨h2, -⟩, ⟨h3, -⟩, h4, h5⟩ := h
  refine ⟨?_, ?_, ?_, ?_, fun o ho => ?_⟩
  · show _ ≤ _; omega
  · show _ ≤ _; omega
  · show _ ≤ _; omega
  · show _ ≤ _; omega
  · obtain ⟨g1, ⟨g2, -⟩, g3, g4⟩ := h5 o ho
    refine ⟨by omega, ?_, ?_, fun e he => ?_⟩
    · show _ ≤ _; omega
    · show _ ≤ _; omega
    · have := (g4 e he).1
      show _ ≤ _; omega
theorem FactsR.sh {l : List Fact} (h : FactsR l) : Sh l := by have := h.1; show _ ≤ _; omega
theorem law_of {f : FuncId} {args : List AV} {w : World} {cargs : Array Value} (h : ACall cx f args (.c (.bool true))) (hs : cargs.size = args.length) (hr : ∀ (j : Nat) (x : AV) (v : Value), args[j]? = some x → cargs[j]? = some v → RV w nov (mO (fun _ => False)) x v) :
    Calls Tryz.prog f cargs w fun e w' => e = .returned (.bool true) ∧ Below w.heap.size w w' := by
  refine Calls.mono (h.2 w (fun _ => False) cargs trivial (Nat.zero_le _) (fun b hb => hb.elim) hs hr) ?_
  rintro e w' ⟨v, rfl, h1, h2, _⟩
  rw [rv_c h1]
  exact ⟨rfl, ⟨h2.os, h2.tape, h2.output, h2.size, fun b hb => h2.block b hb (fun h => h)⟩⟩
end Go.Proofs.YtcpajbglcgbolaaGreat.Am
/- stratagemlaw31.CheckerPerfect returns true for every input. No condition beyond the row's own. -/
namespace Go.Proofs.YtcpajbglcgbolaaGreat.rowPerfect
open Go.ChangeShapes Go.WideShapes Go.ChangeAt Go.RowKit Am
theorem laidOut : laidOutB Tryz.prog = true := by kernel_rfl
set_option maxRecDepth 100000 in
theorem contract (H : Type) (enc : TypeId × Value → H) (W : World) (base : Nat) (args : Array Value) (ds gs : List (DataW H)) (before : List MemPlace)
    (hval : ∀ (j : Nat) t v, Tryz.f5.params[j]? = some t → args[j]? = some v → Value.okWide Tryz.prog W .any base t v)
    (hW : DataW.Whole enc Tryz.prog Tryz.f5.params.toList Rows.checkerPerfectSpec.vars false W args.toList ds gs before)
    (hsz : (DataW.weightsEach Tryz.prog (Tryz.f5.params.toList ++ (OpenSpec.ofChange Rows.checkerPerfectSpec).bare.plain.varTypes Tryz.prog) (ds ++ gs)).all (· ≤ reachBytes) = true) :
    Calls Tryz.prog 5 args W fun e W' => ∃ v, e = .returned v ∧ Rows.checkerPerfectSpec.post enc Tryz.prog Tryz.f5 false true false false W args v W' := by
  have hW' := hW
  obtain ⟨p, q, hA0, hV, rfl, hfz, hnd⟩ := hW
  have hA : DataW.TrodAll enc Tryz.prog W 0 (fun _ => true) true Tryz.f5.params.toList args.toList ds p := hA0
  rw [Tryz.params5] at hA hval
  obtain ⟨v0, vs0, d0, ds0, p0, q0, hargs, rfl, rfl, h0, r0⟩ := trodAll_cons hA
  obtain ⟨v1, vs1, d1, ds1, p1, q1, rfl, rfl, rfl, h1, r1⟩ := trodAll_cons r0
  obtain ⟨rfl, rfl, rfl⟩ := trodAll_nil r1
  obtain rfl : args = #[v0, v1] := Array.ext' hargs
  obtain ⟨rfl, rfl⟩ := trodVars_none hV
  simp only [List.append_nil] at hW' hA0 hsz
  rw [Tryz.params5] at hsz
  obtain ⟨t, ht, k0⟩ := arg_struct Tryz.underlying26 (hval 0 26 v0 rfl rfl) oTask h0 (sized_arg hsz (j := 0) rfl rfl)
  obtain ⟨b, rfl, rfl, rfl, wd⟩ := open_int Tryz.underlying3 (hval 1 3 v1 rfl rfl) h1
  simp only [List.append_nil] at hW' hA0
  refine (law_of (A_l31_CheckerPerfect 1000000000000000000 t b (perfect_true 1000000000000000000 (Nat.le_refl _) t ht.sh b)) rfl (fun j x v hx hv => ?_)).mono fun e W' ⟨he, hb⟩ => ?_
  · match j, hx, hv with
    | 0, hx, hv => simp at hx hv; subst hx hv; exact k0
    | 1, hx, hv => simp at hx hv; subst hx hv; exact .c _
    | j + 2, hx, hv => simp at hx
  · subst he
    exact ⟨_, rfl, law_post laidOut rfl (by kernel_rfl) Tryz.underlying4 (by kernel_rfl) hW' hA0 rfl rfl rfl hb⟩
theorem own : ownKnob Tryz.prog.godebug = none := by kernel_rfl
theorem laid_met (os : Os) : laidMet Tryz.prog Rows.checkerPerfectRow.laid ((World.holding Tryz.prog os ⟨#[], #[], []⟩).forCall (fun _ _ => 0) ⟨#[], #[.agg #[.slice none 0 0, .slice none 0 0, .slice none 0 0, .slice none 0 0], .int .i64 0], []⟩).memory :=
  laidMet_of_run' 8 (by kernel_rfl) (by kernel_rfl)
theorem reads (os : Os) {H : Type} (enc : TypeId × Value → H) : ∃ places, DataW.whole enc Tryz.prog ((World.holding Tryz.prog os ⟨#[], #[], []⟩).forCall (fun _ _ => 0) ⟨#[], #[.agg #[.slice none 0 0, .slice none 0 0, .slice none 0 0, .slice none 0 0], .int .i64 0], []⟩).memory Tryz.f5.params.toList Rows.checkerPerfectSpec.vars false (#[.agg #[.slice none 0 0, .slice none 0 0, .slice none 0 0, .slice none 0 0], .int .i64 0] : Array Value).toList 8 = some ([.agg [.nil, .nil, .nil, .nil], .lit (.int .i64 0)], [], places) :=
  ⟨[], by kernel_rfl⟩

set_option maxRecDepth 100000 in
theorem lifted (os : Os) (started : os.Started) (H : Type) (enc : TypeId × Value → H) (F : Stop.Interp) :
    ReturnsInHanded {} Tryz.checked os 5 .any ((OpenSpec.ofChange Rows.checkerPerfectSpec).preRow enc Tryz.prog Tryz.f5 Rows.checkerPerfectRow.domain false Rows.checkerPerfectRow.laid) (((OpenSpec.ofChange Rows.checkerPerfectSpec).at F).post enc Tryz.prog Tryz.f5 false true false false) := by
  obtain ⟨places, hx⟩ := reads os enc
  refine returnsInHanded_of_row (C := Tryz.checked) (s := OpenSpec.ofChange Rows.checkerPerfectSpec) own started (by kernel_rfl) Tryz.func5
    (witness_row_at (enc := enc) (C := Tryz.checked) false (World.holding Tryz.prog os ⟨#[], #[], []⟩) #[.agg #[.slice none 0 0, .slice none 0 0, .slice none 0 0, .slice none 0 0], .int .i64 0] rfl (by kernel_rfl) (by kernel_rfl) (by kernel_rfl)
      (OpenSpec.preRow_of_cond 8 hx (by kernel_rfl) (fun k hk => by cases hk) (by kernel_rfl) (laid_met os))) ?_
  intro W base args ds gs before hval hW _ _ hsz _ _ _
  exact contract H enc W base args ds gs before hval hW hsz

/-- THE STATEMENT. -/
theorem said : Rows.CheckerPerfectSaid :=
  OpenClaim.holds_of_cond 5 Tryz.f5 rfl rfl rfl rfl rfl rfl rfl ⟨rfl, rfl, rfl, rfl, rfl⟩ rfl rfl rfl rfl rfl (by kernel_rfl) Tryz.func5 (by kernel_rfl)
    (of_decide_eq_true (by kernel_rfl)) (by unfold Func.isWrapper; first | (rw [if_pos (by decide +kernel)]; kernel_rfl) | (rw [if_neg (by decide +kernel)]; exact ⟨rfl, rfl⟩))
    (fun os started H enc _ F => by rw [OpenClaim.pre_eq_preRow]; exact lifted os started H enc F)
end Go.Proofs.YtcpajbglcgbolaaGreat.rowPerfect
