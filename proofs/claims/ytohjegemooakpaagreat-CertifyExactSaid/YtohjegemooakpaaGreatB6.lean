/- stratagemlaw32.CertifyExact returns true for every input. No condition beyond the row's own. -/
import Derived.Test.YtohjegemooakpaaGreatB5
import Derived.Test.YtohjegemooakpaaGreatB4
import Derived.Test.YtohjegemooakpaaGreatB1
import Derived.Deep.Slices
import Derived.Deep.Fields
import Derived.ChangeSame
import Derived.SizedLaws
import Derived.Lib.SmallJoins
import Derived.Test.YtohjegemooakpaaGreatB2
import Derived.Below
import Derived.OpenShut
import Derived.Carry
import Derived.Test.YtohjegemooakpaaGreatRows
import Derived.Deep.DeepHandedRow
import Derived.Lib.LaidTab
/- Range loops of the models as recursions. -/
namespace Go.Proofs.YtohjegemooakpaaGreat.Am
def M_b_Rank_L1_B (a0 : List Int) (_ : List Int) (_y11 : Int) (v8 : Int) : ((Int)) → (((Int)) → Option (Int)) → Option (Int) := fun v7 rc => ix a0 v8 (fun y10 =>
       ixv _y11 (fun y11 =>
        rc ((IntKind.i64.wrap ((IntKind.i64.wrap (v7 * y10)) + y11)))))
def M_b_Rank_L1_E (_ : List Int) (_ : List Int) : ((Int)) → Option (Int) := fun v7 => some v7
theorem M_b_Rank_L1_eq (a0 : List Int) (a1 : List Int) (v7 : Int) (hl : a1.length < 9223372036854775807) : M_b_Rank_L1 a0 a1 (((a1.map cI).length : Int).toNat + 1) v7 0 = Rg (M_b_Rank_L1_B a0 a1) (M_b_Rank_L1_E a0 a1) a1 0 v7 := rg_e2 (L := fun k i v7 => M_b_Rank_L1 a0 a1 k v7 i) hl (fun k n p y hy h1 h2 => by first | (simp only [M_b_Rank_L1, M_b_Rank_L1_B, List.length_map, decide_lt h1, sel, ix_at hy, ixv, h2]; done) | (simp only [List.length_map] at h1 hy; (simp only [M_b_Rank_L1, M_b_Rank_L1_B, List.length_map, decide_lt h1, sel, ix_at hy, ixv, h2]; done))) (fun k p => by simp only [M_b_Rank_L1, M_b_Rank_L1_E, List.length_map, decide_ge, sel]) v7
def M_b_Edges_L1_B (a0 : GTask) (v68 : Int) (y88 : List Int) (v97 : Int) : ((List GEdge)) → (((List GEdge)) → Option (List GEdge)) → Option (List GEdge) := fun v98 rc => ob2 (M_b_Apply a0 y88 v97) (fun z100 z101 =>
       sel z101
        (ob1 (M_b_Rank a0.Vars z100) (fun z102 =>
          grd ((v98.length + 1) * 24 ≤ 140737488355328) (rc ((v98 ++ [{ From := v68, Op := v97, To := z102 : GEdge }])))))
        (rc (v98)))
def M_b_Edges_L1_E (_ : GTask) (_ : Int) (_ : List Int) : ((List GEdge)) → Option (List GEdge) := fun v98 => some v98
theorem M_b_Edges_L1_eq (a0 : GTask) (v68 : Int) (y88 : List Int) (v98 : List GEdge) {m : Nat} (hm : ((a0.Ops.map cGOp).length : Int) = (m : Int)) (hl : m < 9223372036854775807) : M_b_Edges_L1 a0 v68 y88 ((((a0.Ops.map cGOp).length : Int)).toNat + 1) 0 v98 = Rn (M_b_Edges_L1_B a0 v68 y88) (M_b_Edges_L1_E a0 v68 y88) m 0 v98 := rn_e (L := fun k i v98 => M_b_Edges_L1 a0 v68 y88 k i v98) hm hl (fun _ _ _ => rfl) v98
def M_b_Edges_L2_B (a0 : GTask) (_ : List (List Int)) (_y88 : List Int) (v68 : Int) : ((List GEdge)) → (((List GEdge)) → Option (List GEdge)) → Option (List GEdge) := fun v69 rc => ob1 (ixv _y88 (fun y88 =>
        M_b_Edges_L1 a0 v68 y88 ((((a0.Ops.map cGOp).length : Int)).toNat + 1) 0 v69) : Option (List GEdge))
       (fun v86 => rc (v86))
def M_b_Edges_L2_E (_ : GTask) (_ : List (List Int)) : ((List GEdge)) → Option (List GEdge) := fun v69 => grd (v69.length ≤ 140737488355328) (some v69)
theorem M_b_Edges_L2_eq (a0 : GTask) (z1 : List (List Int)) (v69 : List GEdge) (hl : z1.length < 9223372036854775807) : M_b_Edges_L2 a0 z1 (((z1.map cL_cI).length : Int).toNat + 1) 0 v69 = Rg (M_b_Edges_L2_B a0 z1) (M_b_Edges_L2_E a0 z1) z1 0 v69 := rg_e2 (L := fun k i v69 => M_b_Edges_L2 a0 z1 k i v69) hl (fun k n p y hy h1 h2 => by first | (simp only [M_b_Edges_L2, M_b_Edges_L2_B, List.length_map, decide_lt h1, sel, ix_at hy, ixv, h2]; done) | (simp only [List.length_map] at h1 hy; (simp only [M_b_Edges_L2, M_b_Edges_L2_B, List.length_map, decide_lt h1, sel, ix_at hy, ixv, h2]; done))) (fun k p => by simp only [M_b_Edges_L2, M_b_Edges_L2_E, List.length_map, decide_ge, sel]) v69
def M_b_Distances_L1_B (a0 : GTask) (_ : List (List Int)) (_y34 : List Int) (v31 : Int) : ((List Int)) → (((List Int)) → Option (List Int)) → Option (List Int) := fun v32 rc => ixv _y34 (fun y34 =>
       ixn v32 ((v31).toNat) (fun _ =>
        grd (v31 < ((v32.length : Nat) : Int)) (ob1 (M_b_Holds a0.Goal y34) (fun z36 =>
         sel z36
          (ixn (v32.set ((v31).toNat) 1125899906842624) ((v31).toNat) (fun _ =>
            rc (((v32.set ((v31).toNat) 1125899906842624).set ((v31).toNat) 0))))
          (rc ((v32.set ((v31).toNat) 1125899906842624)))))))
def M_b_Distances_L1_E (_ : GTask) (_ : List (List Int)) : ((List Int)) → Option (List Int) := fun v32 => some v32
theorem M_b_Distances_L1_eq (a0 : GTask) (z1 : List (List Int)) (v32 : List Int) (hl : z1.length < 9223372036854775807) : M_b_Distances_L1 a0 z1 (((z1.map cL_cI).length : Int).toNat + 1) 0 v32 = Rg (M_b_Distances_L1_B a0 z1) (M_b_Distances_L1_E a0 z1) z1 0 v32 := rg_e1 (L := fun k i v32 => M_b_Distances_L1 a0 z1 k i v32) hl (fun _ _ _ => rfl) v32
def M_b_Distances_L2_B (a0 : GTask) (_ : List GEdge) (_y316 : GEdge) (_ : Int) : ((Bool) × (List Int)) → (((Bool) × (List Int)) → Option (Bool × (List Int))) → Option (Bool × (List Int)) := fun (v312, v314) rc => ixv _y316 (fun y316 =>
       ix a0.Ops y316.Op (fun y317 =>
        ob1 (some () : Option (Unit))
         (fun _ => ob1 (ixn v314 ((y316.To).toNat) (fun y324 =>
             sel (decide (y324 < 1125899906842624))
              (ixn v314 ((y316.To).toNat) (fun y325 =>
                ixn v314 ((y316.From).toNat) (fun y326 =>
                 grd (0 ≤ y316.To) (grd (y316.To < ((v314.length : Nat) : Int)) (grd (0 ≤ y316.From) (grd (y316.From < ((v314.length : Nat) : Int)) (some (decide ((IntKind.i64.wrap (y325 + y317.Cost)) < y326)))))))))
              (grd (0 ≤ y316.To) (grd (y316.To < ((v314.length : Nat) : Int)) (some false)))) : Option (Bool))
            (fun v322 => sel v322
               (ixn v314 ((y316.To).toNat) (fun y327 =>
                 ixn v314 ((y316.From).toNat) (fun _ =>
                  grd (0 ≤ y316.To) (grd (y316.To < ((v314.length : Nat) : Int)) (grd (0 ≤ y316.From) (grd (y316.From < ((v314.length : Nat) : Int)) (rc (true, (v314.set ((y316.From).toNat) (IntKind.i64.wrap (y327 + y317.Cost)))))))))))
               (rc (v312, v314))))))
def M_b_Distances_L2_E (_ : GTask) (_ : List GEdge) : ((Bool) × (List Int)) → Option (Bool × (List Int)) := fun (v312, v314) => some (v312, v314)
theorem M_b_Distances_L2_eq (a0 : GTask) (z38 : List GEdge) (v312 : Bool) (v314 : List Int) (hl : z38.length < 9223372036854775807) : M_b_Distances_L2 a0 z38 (((z38.map cGEdge).length : Int).toNat + 1) v312 0 v314 = Rg (M_b_Distances_L2_B a0 z38) (M_b_Distances_L2_E a0 z38) z38 0 (v312, v314) := rg_e1 (L := fun k i p => match p with | (v312, v314) => M_b_Distances_L2 a0 z38 k v312 i v314) hl (fun _ _ ⟨_, _⟩ => rfl) (v312, v314)
def M_l32_CertifyExact_L1_B (y175 : List Int) (_ : GCertificate) (_y198 : Nogood) (_ : Int) : ((Int)) → (((Int)) → Option (Int)) → Option (Int) := fun v195 rc => ixv _y198 (fun y198 =>
       ob1 (M_b_Holds y198.1 y175) (fun z199 =>
        sel z199
         (rc ((min v195 y198.2)))
         (rc (v195))))
def M_l32_CertifyExact_L1_E (_ : List Int) (_ : GCertificate) : ((Int)) → Option (Int) := fun v195 => some v195
theorem M_l32_CertifyExact_L1_eq (y175 : List Int) (z11 : GCertificate) (v195 : Int) (hl : z11.Nogoods.length < 9223372036854775807) : M_l32_CertifyExact_L1 y175 z11 (((z11.Nogoods.map cN).length : Int).toNat + 1) v195 0 = Rg (M_l32_CertifyExact_L1_B y175 z11) (M_l32_CertifyExact_L1_E y175 z11) z11.Nogoods 0 v195 := rg_e1 (L := fun k i v195 => M_l32_CertifyExact_L1 y175 z11 k v195 i) hl (fun _ _ _ => rfl) v195
def M_l32_CertifyExact_L2_B (a1 : Int) (z11 : GCertificate) (z14 : List Int) (_ : List (List Int)) (_y175 : List Int) (v141 : Int) : Unit → (Unit → Option (Bool)) → Option (Bool) := fun _ rc => ob1 (ixv _y175 (fun y175 =>
        ob1 (M_l32_CertifyExact_L1 y175 z11 ((((z11.Nogoods.map cN).length : Int)).toNat + 1) 1125899906842624 0 : Option (Int))
         (fun v187 => sel (decide (a1 < 0))
            (ix z14 v141 (fun y200 =>
              sel (!((decide (v187 < 1125899906842624)) == (decide (y200 < 1125899906842624))))
               (some (.inr false))
               (some (.inl ()))))
            (ix z14 v141 (fun y201 =>
              sel (decide (y201 < a1))
               (ix z14 v141 (fun y202 =>
                 sel (v187 != y202)
                  (some (.inr false))
                  (ix z14 v141 (fun y203 =>
                    sel (decide (y203 ≥ a1))
                     (sel (decide (v187 < 1125899906842624))
                       (some (.inr false))
                       (some (.inl ())))
                     (some (.inl ()))))))
               (ix z14 v141 (fun y204 =>
                 sel (decide (y204 ≥ a1))
                  (sel (decide (v187 < 1125899906842624))
                    (some (.inr false))
                    (some (.inl ())))
                  (some (.inl ())))))))) : Option (Unit ⊕ Bool))
       (osum
       (fun _ => rc ())
       (fun r173 => some r173))
def M_l32_CertifyExact_L2_E (_ : Int) (_ : GCertificate) (_ : List Int) (_ : List (List Int)) : Unit → Option (Bool) := fun _ => some true
theorem M_l32_CertifyExact_L2_eq (a1 : Int) (z11 : GCertificate) (z14 : List Int) (z15 : List (List Int))  (hl : z15.length < 9223372036854775807) : M_l32_CertifyExact_L2 a1 z11 z14 z15 (((z15.map cL_cI).length : Int).toNat + 1) 0 = Rg (M_l32_CertifyExact_L2_B a1 z11 z14 z15) (M_l32_CertifyExact_L2_E a1 z11 z14 z15) z15 0 () := rg_e2 (L := fun k i _ => M_l32_CertifyExact_L2 a1 z11 z14 z15 k i) hl (fun k n p y hy h1 h2 => by first | (simp only [M_l32_CertifyExact_L2, M_l32_CertifyExact_L2_B, List.length_map, decide_lt h1, sel, ix_at hy, ixv, h2]; done) | (simp only [List.length_map] at h1 hy; (simp only [M_l32_CertifyExact_L2, M_l32_CertifyExact_L2_B, List.length_map, decide_lt h1, sel, ix_at hy, ixv, h2]; done))) (fun k p => by simp only [M_l32_CertifyExact_L2, M_l32_CertifyExact_L2_E, List.length_map, decide_ge, sel]) ()
end Go.Proofs.YtohjegemooakpaaGreat.Am
/- Plain: stratagembase.Rank, Edges: the numbers of states, and the ways from state to state. -/
namespace Go.Proofs.YtohjegemooakpaaGreat.Am
open Go.RowKit
def rankF : List Int → List Int → Int → Int
  | k :: r, x :: t, v => rankF r t (v * k + x)
  | _, _, v => v
theorem flat_at (m : Nat) : ∀ (out : List (List Int)) (i x : Nat) (s : List Int), out[i]? = some s → x < m → (out.flatMap fun s => extF s m 0)[i * m + x]? = some (s ++ [(x : Int)])
  | [], i, x, s, h, _ => by simp at h
  | u :: out, i, x, s, h, hx => by
    have hext : ∀ (u : List Int) (m : Nat) (j : Int) (x : Nat), x < m → (extF u m j)[x]? = some (u ++ [j + (x : Int)]) := by
      intro u m
      induction m with
      | zero => intro j x hx; omega
      | succ m ih =>
        intro j x hx
        rw [extF]
        cases x with
        | zero => simp
        | succ x => rw [List.getElem?_cons_succ, ih (j + 1) x (by omega)]; congr 3; omega
    rw [List.flatMap_cons]
    cases i with
    | zero =>
      simp only [List.getElem?_cons_zero, Option.some.injEq] at h
      subst h
      rw [Nat.zero_mul, Nat.zero_add, List.getElem?_append_left (by rw [extF_len]; exact hx), hext u m 0 x hx]
      congr 3; omega
    | succ i =>
      rw [List.getElem?_cons_succ] at h
      rw [List.getElem?_append_right (by rw [extF_len, Nat.add_mul]; omega), extF_len, show (i + 1) * m + x - m = i * m + x from by rw [Nat.add_mul]; omega]
      exact flat_at m out i x s h hx
theorem rank_at : ∀ (r : List Int) (out : List (List Int)) (i : Nat) (s u : List Int), out[i]? = some s → stateF r u = true → ∃ k : Nat, rankF r u i = (k : Int) ∧ (statesG r out)[k]? = some (s ++ u)
  | [], out, i, s, u, h, hu => by
    cases u with
    | nil => exact ⟨i, rfl, by rw [statesG, List.append_nil]; exact h⟩
    | cons x u => simp [stateF] at hu
  | k :: r, out, i, s, u, h, hu => by
    cases u with
    | nil => simp [stateF] at hu
    | cons x u =>
      rw [stateF, Bool.and_eq_true, decide_eq_true_iff] at hu
      obtain ⟨m, rfl⟩ : ∃ m : Nat, k = m := ⟨k.toNat, by omega⟩
      obtain ⟨y, rfl⟩ : ∃ y : Nat, x = y := ⟨x.toNat, by omega⟩
      have h1 := flat_at m out i y s h (by omega)
      obtain ⟨q, e1, e2⟩ := rank_at r _ (i * m + y) (s ++ [(y : Int)]) u h1 hu.2
      refine ⟨q, ?_, by rw [statesG, Int.toNat_natCast, e2, List.append_assoc]; rfl⟩
      rw [rankF, ← e1, Int.natCast_add, Int.natCast_mul]
/-- the number of a state is its place -/
theorem rank_all {t : GTask} {s : List Int} (hs : stateF t.Vars s = true) : ∃ k : Nat, rankF t.Vars s 0 = (k : Int) ∧ (allF t)[k]? = some s := rank_at t.Vars [[]] 0 [] s rfl hs
theorem rank_loop (vars s : List Int) (B : Int) (hB : B ≤ 1000000) : ∀ (u r : List Int) (n : Nat) (v : Int), s.drop n = u → vars.drop n = r → u.length = r.length → 0 ≤ v → stateF r u = true → (∀ k ∈ r, 1 ≤ k ∧ k ≤ 64) → rankF r u v ≤ B →
    Rg (M_b_Rank_L1_B vars s) (M_b_Rank_L1_E vars s) u n v = some (rankF r u v)
  | [], r, n, v, hs, hr, hl, hv, hst, _, _ => by
    cases r with
    | nil => rfl
    | cons k r => simp at hl
  | x :: u, r, n, v, hs, hr, hl, hv, hst, hk, hb => by
    cases r with
    | nil => simp at hl
    | cons k r =>
      obtain ⟨hx, hs2, -⟩ := drop_cons hs
      obtain ⟨hk1, hr2, -⟩ := drop_cons hr
      rw [stateF, Bool.and_eq_true, decide_eq_true_iff] at hst
      obtain ⟨k1, k2⟩ := hk k (List.mem_cons_self ..)
      rw [rankF] at hb ⊢
      have hmono : ∀ (r u : List Int) (v : Int), stateF r u = true → 0 ≤ v → (∀ k ∈ r, 1 ≤ k ∧ k ≤ 64) → v ≤ rankF r u v := by
        intro r
        induction r with
        | nil => intro u v _ _ _; cases u <;> exact Int.le_refl _
        | cons k r ih =>
          intro u v hu hv hk
          cases u with
          | nil => simp [stateF] at hu
          | cons x u =>
            rw [stateF, Bool.and_eq_true, decide_eq_true_iff] at hu
            have hk1 := hk k (List.mem_cons_self ..)
            have hm : v * 1 ≤ v * k := Int.mul_le_mul_of_nonneg_left hk1.1 hv
            have h2 := ih u (v * k + x) hu.2 (by omega) (fun y hy => hk y (List.mem_cons_of_mem _ hy))
            rw [rankF]; omega
      have hvk : 0 ≤ v * k := Int.mul_nonneg hv (by omega)
      have hle := hmono r u (v * k + x) hst.2 (by omega) (fun y hy => hk y (List.mem_cons_of_mem _ hy))
      have w1 : IntKind.i64.wrap (v * k) = v * k := wrap_eq (by omega) (by omega)
      have w2 : IntKind.i64.wrap (v * k + x) = v * k + x := wrap_eq (by omega) (by omega)
      rw [Rg, M_b_Rank_L1_B, ix_at hk1, ixv, w1, w2]
      exact rank_loop vars s B hB u r (n + 1) (v * k + x) hs2 hr2 (by simpa using hl) (by omega) hst.2 (fun y hy => hk y (List.mem_cons_of_mem _ hy)) hb
theorem rank_eq {t : GTask} (hsm : smallF t = true) {s : List Int} (hs : stateF t.Vars s = true) : ∃ k : Nat, M_b_Rank t.Vars s = some (k : Int) ∧ (allF t)[k]? = some s := by
  obtain ⟨k, e1, e2⟩ := rank_all hs
  have hlen := (stateF_st hs).len
  have hv := (small_good hsm).2.1
  have hk : k < (allF t).length := (List.getElem?_eq_some_iff.1 e2).1
  have hal := allF_len t hsm
  refine ⟨k, ?_, e2⟩
  rw [M_b_Rank, M_b_Rank_L1_eq t.Vars s 0 (by omega)]
  have := rank_loop t.Vars s 1000000 (by decide) s t.Vars 0 0 rfl rfl hlen (by decide) hs (good_dom (small_good hsm).1).dom (by rw [e1]; omega)
  rw [e1] at this
  exact this
/-- a way from state to state -/
structure EdgP (t : GTask) (e : GEdge) : Prop where
  ex : ∃ (a b q : Nat) (s : List Int) (o : GOp), e.From = (a : Int) ∧ e.To = (b : Int) ∧ e.Op = (q : Int) ∧ (allF t)[a]? = some s ∧ (allF t)[b]? = some (nextF s o) ∧ t.Ops[q]? = some o ∧ holdsF s o.Pre = true
theorem edges1 {t : GTask} (hsm : smallF t = true) (i : Nat) (s : List Int) (hi : (allF t)[i]? = some s) : ∀ (l : List GOp) (m j : Nat) (v : List GEdge), t.Ops.drop j = l → l.length = m → v.length + m ≤ 100000 → (∀ e ∈ v, EdgP t e) →
    ∃ v', Rn (M_b_Edges_L1_B t i s) (M_b_Edges_L1_E t i s) m j v = some v' ∧ v'.length ≤ v.length + m ∧ ∀ e ∈ v', EdgP t e
  | [], m, j, v, _, hm, _, hv => by subst hm; exact ⟨v, rfl, Nat.le_refl _, hv⟩
  | o :: os, m, j, v, hdr, hm, hlen, hv => by
    have hgood := (small_good hsm).1
    obtain ⟨hj, hd', hlt⟩ := drop_cons hdr
    obtain ⟨m, rfl⟩ : ∃ k, m = k + 1 := ⟨os.length, hm.symm⟩
    have hst := (allF_mem t s).1 (List.mem_of_getElem? hi)
    have hm' : os.length = m := by simpa using hm
    rw [Rn, M_b_Edges_L1_B, apply_eq t hgood s (stateF_st hst) j o hj]
    by_cases hp : holdsF s o.Pre = true
    · obtain ⟨k, e1, e2⟩ := rank_eq hsm (next_state hgood hst (List.mem_of_getElem? hj))
      rw [if_pos hp, ob2_some, sel_tt, e1, ob1_some, grd_t (by omega)]
      obtain ⟨v', h1, h2, h3⟩ := edges1 hsm i s hi os m (j + 1) (v ++ [{ From := (i : Int), Op := (j : Int), To := (k : Int) }]) hd' hm' (by simp; omega) (fun e he => by
        rcases List.mem_append.1 he with he | he
        · exact hv e he
        · rw [List.mem_singleton.1 he]; exact ⟨⟨i, k, j, s, o, rfl, rfl, rfl, hi, e2, hj, hp⟩⟩)
      exact ⟨v', h1, by simp at h2; omega, h3⟩
    · rw [if_neg hp, ob2_some, sel_ff]
      obtain ⟨v', h1, h2, h3⟩ := edges1 hsm i s hi os m (j + 1) v hd' hm' (by omega) hv
      exact ⟨v', h1, by omega, h3⟩
theorem edges2 {t : GTask} (hsm : smallF t = true) : ∀ (r : List (List Int)) (i : Nat) (v : List GEdge), (allF t).drop i = r → v.length + r.length * 20 ≤ 100000 → (∀ e ∈ v, EdgP t e) →
    ∃ v', Rg (M_b_Edges_L2_B t (allF t)) (M_b_Edges_L2_E t (allF t)) r i v = some v' ∧ v'.length ≤ 100000 ∧ ∀ e ∈ v', EdgP t e
  | [], i, v, _, hl, hv => ⟨v, by rw [Rg, M_b_Edges_L2_E, grd_t (by simp at hl; omega)], by simpa using hl, hv⟩
  | s :: r, i, v, hdr, hl, hv => by
    obtain ⟨hi, hd', hlt⟩ := drop_cons hdr
    have hops := (small_good hsm).2.2
    rw [List.length_cons] at hl
    rw [Rg, M_b_Edges_L2_B, ixv, M_b_Edges_L1_eq t i s v (m := t.Ops.length) (by rw [List.length_map]) (by omega)]
    obtain ⟨v1, h1, h2, h3⟩ := edges1 hsm i s hi t.Ops t.Ops.length 0 v rfl rfl (by omega) hv
    have h1' : Rn (M_b_Edges_L1_B t i s) (M_b_Edges_L1_E t i s) t.Ops.length 0 v = some v1 := h1
    rw [h1', ob1_some]
    exact edges2 hsm r (i + 1) v1 hd' (by omega) h3
theorem edges_eq {t : GTask} (hsm : smallF t = true) : ∃ es, M_b_Edges t = some es ∧ es.length ≤ 100000 ∧ ∀ e ∈ es, EdgP t e := by
  have hal := allF_len t hsm
  obtain ⟨es, h1, h2, h3⟩ := edges2 hsm (allF t) 0 [] rfl (by simp; omega) (fun e he => by cases he)
  refine ⟨es, ?_, h2, h3⟩
  rw [M_b_Edges, states_eq t hsm, ob1_some, M_b_Edges_L2_eq t (allF t) [] (by omega)]
  exact h1
end Go.Proofs.YtohjegemooakpaaGreat.Am
/- Plain: stratagembase.Distances keeps what holds of the goal states and of each way back. -/
namespace Go.Proofs.YtohjegemooakpaaGreat.Am
open Go.RowKit
abbrev infD : Int := 1125899906842624
theorem take_set (x : Int) : ∀ (l : List Int) (n : Nat), n < l.length → (l.set n x).take (n + 1) = l.take n ++ [x]
  | [], n, h => by simp at h
  | y :: l, 0, _ => by simp
  | y :: l, n + 1, h => by
    rw [List.set_cons_succ, List.take_succ_cons, take_set x l n (by simpa using h), List.take_succ_cons, List.cons_append]
theorem sum_set (x : Int) : ∀ (l : List Int) (n : Nat) (y : Int), l[n]? = some y → (l.set n x).sum = l.sum - y + x
  | [], n, y, h => by simp at h
  | z :: l, 0, y, h => by
    simp only [List.getElem?_cons_zero, Option.some.injEq] at h
    subst h
    rw [List.set_cons_zero, List.sum_cons, List.sum_cons]; omega
  | z :: l, n + 1, y, h => by
    rw [List.getElem?_cons_succ] at h
    rw [List.set_cons_succ, List.sum_cons, List.sum_cons, sum_set x l n y h]; omega
theorem sum_pos : ∀ (l : List Int), (∀ x ∈ l, 0 ≤ x) → 0 ≤ l.sum
  | [], _ => by simp
  | x :: l, h => by
    have h0 := h x (List.mem_cons_self ..)
    have := sum_pos l (fun y hy => h y (List.mem_cons_of_mem _ hy))
    rw [List.sum_cons]; omega
theorem sum_le (B : Int) : ∀ (l : List Int), (∀ x ∈ l, x ≤ B) → l.sum ≤ B * l.length
  | [], _ => by simp
  | x :: l, h => by
    have h0 := h x (List.mem_cons_self ..)
    have := sum_le B l (fun y hy => h y (List.mem_cons_of_mem _ hy))
    rw [List.sum_cons, List.length_cons, Int.natCast_add, Int.mul_add]; omega
/-- what is kept of the distances -/
structure DInv (t : GTask) (Q : List Int → Int → Prop) (d : List Int) : Prop where
  len : d.length = (allF t).length
  ok : ∀ (i : Nat) (s : List Int) (x : Int), (allF t)[i]? = some s → d[i]? = some x → 0 ≤ x ∧ x ≤ infD ∧ (x ≠ infD → Q s x)
theorem DInv.all {t : GTask} {Q : List Int → Int → Prop} {d : List Int} (h : DInv t Q d) : ∀ x ∈ d, 0 ≤ x ∧ x ≤ infD := fun x hx => by
  obtain ⟨i, hi⟩ := List.getElem?_of_mem hx
  have hlt := (List.getElem?_eq_some_iff.1 hi).1
  have hs : (allF t)[i]? = some ((allF t)[i]'(by rw [← h.len]; exact hlt)) := List.getElem?_eq_getElem _
  obtain ⟨h1, h2, -⟩ := h.ok i _ x hs hi
  exact ⟨h1, h2⟩
structure DQ (t : GTask) (Q : List Int → Int → Prop) : Prop where
  goal : ∀ s ∈ allF t, holdsF s t.Goal = true → Q s 0
  step : ∀ s ∈ allF t, ∀ o ∈ t.Ops, holdsF s o.Pre = true → ∀ x : Int, 0 ≤ x → Q (nextF s o) x → Q s (x + o.Cost)
theorem dis1 {t : GTask} (hgood : goodF t = true) : ∀ (r : List (List Int)) (n : Nat) (v : List Int), (allF t).drop n = r → v.length = (allF t).length →
    Rg (M_b_Distances_L1_B t (allF t)) (M_b_Distances_L1_E t (allF t)) r n v = some (v.take n ++ r.map fun s => if holdsF s t.Goal = true then 0 else infD)
  | [], n, v, hd, hl => by
    have hn := congrArg List.length hd
    simp only [List.length_drop, List.length_nil] at hn
    rw [Rg, M_b_Distances_L1_E, List.map_nil, List.append_nil, List.take_of_length_le (by omega)]
  | s :: r, n, v, hd, hl => by
    obtain ⟨hs, hd', hlt⟩ := drop_cons hd
    have hv : v[n]? = some (v[n]'(by omega)) := List.getElem?_eq_getElem _
    have hv2 : (v.set n 1125899906842624)[n]? = some 1125899906842624 := List.getElem?_set_self (by omega)
    rw [Rg, M_b_Distances_L1_B, ixv, Int.toNat_natCast, ixn_at hv, grd_t (by omega), holds_eq t.Goal s (prop_sh (good_dom hgood).len (good_goal hgood)), ob1_some, List.map_cons]
    have hcast : ((n : Int) + 1) = ((n + 1 : Nat) : Int) := rfl
    by_cases hh : holdsF s t.Goal = true
    · rw [hh, sel_tt, ixn_at hv2, List.set_set, hcast, dis1 hgood r (n + 1) _ hd' (by rw [List.length_set]; exact hl), take_set 0 v n (by omega), if_pos rfl, List.append_assoc]; rfl
    · rw [Bool.eq_false_iff.2 hh, sel_ff, hcast, dis1 hgood r (n + 1) _ hd' (by rw [List.length_set]; exact hl), take_set _ v n (by omega), if_neg (by decide), List.append_assoc]; rfl
theorem dis2 {t : GTask} (hgood : goodF t = true) {Q : List Int → Int → Prop} (hQ : DQ t Q) (es : List GEdge) : ∀ (r : List GEdge) (i : Int) (b : Bool) (d : List Int), (∀ e ∈ r, EdgP t e) → DInv t Q d →
    ∃ b' d', Rg (M_b_Distances_L2_B t es) (M_b_Distances_L2_E t es) r i (b, d) = some (b', d') ∧ DInv t Q d' ∧ ((b' = b ∧ d' = d) ∨ (b' = true ∧ d'.sum < d.sum))
  | [], i, b, d, _, hd => ⟨b, d, rfl, hd, .inl ⟨rfl, rfl⟩⟩
  | e :: r, i, b, d, he, hd => by
    have her : ∀ e ∈ r, EdgP t e := fun u hu => he u (List.mem_cons_of_mem _ hu)
    obtain ⟨a, bb, q, s, o, e1, e2, e3, h1, h2, h3, h4⟩ := (he e (List.mem_cons_self ..)).ex
    obtain ⟨F, O, T⟩ := e
    simp only at e1 e2 e3
    subst e1 e2 e3
    have ho := List.mem_of_getElem? h3
    have hcost := good_cost hgood ho
    have hla : a < d.length := by rw [hd.len]; exact (List.getElem?_eq_some_iff.1 h1).1
    have hlb : bb < d.length := by rw [hd.len]; exact (List.getElem?_eq_some_iff.1 h2).1
    obtain ⟨x, hx⟩ : ∃ x, d[bb]? = some x := ⟨_, List.getElem?_eq_getElem hlb⟩
    obtain ⟨y, hy⟩ : ∃ y, d[a]? = some y := ⟨_, List.getElem?_eq_getElem hla⟩
    obtain ⟨x0, x1, xq⟩ := hd.ok bb _ x h2 hx
    obtain ⟨y0, y1, yq⟩ := hd.ok a s y h1 hy
    unfold infD at x1 y1 xq
    have hw : IntKind.i64.wrap (x + o.Cost) = x + o.Cost := wrap_eq (by omega) (by omega)
    rw [Rg, M_b_Distances_L2_B]
    simp only [ixv, ix_at h3, ob1_some, Int.toNat_natCast, ixn_at hx, ixn_at hy, sel_dec]
    by_cases hlt : x < 1125899906842624
    · rw [if_pos hlt, grd_t (by omega), grd_t (by omega), grd_t (by omega), grd_t (by omega), ob1_some, hw]
      by_cases hr : x + o.Cost < y
      · rw [decide_eq_true hr, sel_tt, grd_t (by omega), grd_t (by omega), grd_t (by omega), grd_t (by omega)]
        have hd1 : DInv t Q (d.set a (x + o.Cost)) := by
          refine ⟨by rw [List.length_set]; exact hd.len, fun i s' z hs' hz => ?_⟩
          by_cases hai : a = i
          · subst hai
            rw [List.getElem?_set_self hla] at hz
            injection hz with hz
            rw [h1] at hs'
            injection hs' with hs'
            subst hz hs'
            exact ⟨by omega, by unfold infD; omega, fun _ => hQ.step s (List.mem_of_getElem? h1) o ho h4 x x0 (xq (by omega))⟩
          · rw [List.getElem?_set_ne hai] at hz
            exact hd.ok i s' z hs' hz
        obtain ⟨b', d', g1, g2, g3⟩ := dis2 hgood hQ es r (i + 1) true _ her hd1
        have hsum := sum_set (x + o.Cost) d a y hy
        refine ⟨b', d', g1, g2, .inr ?_⟩
        rcases g3 with ⟨g3, g4⟩ | ⟨g3, g4⟩
        · exact ⟨g3, by rw [g4, hsum]; omega⟩
        · exact ⟨g3, by rw [hsum] at g4; omega⟩
      · rw [decide_eq_false hr, sel_ff]
        exact dis2 hgood hQ es r (i + 1) b d her hd
    · rw [if_neg hlt, grd_t (by omega), grd_t (by omega), ob1_some, sel_ff]
      exact dis2 hgood hQ es r (i + 1) b d her hd
theorem dis3 {t : GTask} (hgood : goodF t = true) {Q : List Int → Int → Prop} (hQ : DQ t Q) (es : List GEdge) (hes : ∀ e ∈ es, EdgP t e) (hlen : es.length ≤ 100000) (hal : (allF t).length ≤ 512) : ∀ (S k : Nat) (d : List Int), DInv t Q d → d.sum ≤ S → S + 2 ≤ k → ∃ d', M_b_Distances_L3 t es k true d = some d' ∧ DInv t Q d' := by
  intro S
  induction S with
  | zero =>
    intro k d hd hs hk
    obtain ⟨k, rfl⟩ : ∃ j, k = j + 2 := ⟨k - 2, by omega⟩
    obtain ⟨b', d', g1, g2, g3⟩ := dis2 hgood hQ es es 0 false d hes hd
    have hpos := sum_pos d' (fun x hx => (g2.all x hx).1)
    rcases g3 with ⟨rfl, rfl⟩ | ⟨-, g4⟩
    · refine ⟨d', ?_, g2⟩
      have hl := g2.len
      rw [M_b_Distances_L3, sel_tt, M_b_Distances_L2_eq t es false d' (by omega), g1, ob1_some]
      simp only
      rw [M_b_Distances_L3, sel_ff, grd_t (by omega)]
    · omega
  | succ S ih =>
    intro k d hd hs hk
    obtain ⟨k, rfl⟩ : ∃ j, k = j + 2 := ⟨k - 2, by omega⟩
    obtain ⟨b', d', g1, g2, g3⟩ := dis2 hgood hQ es es 0 false d hes hd
    rw [M_b_Distances_L3, sel_tt, M_b_Distances_L2_eq t es false d (by omega), g1, ob1_some]
    simp only
    rcases g3 with ⟨rfl, rfl⟩ | ⟨rfl, g4⟩
    · have hl := g2.len
      exact ⟨d', by rw [M_b_Distances_L3, sel_ff, grd_t (by omega)], g2⟩
    · exact ih (k + 1) d' g2 (by omega) (by omega)
theorem dis_eq {t : GTask} (hsm : smallF t = true) {Q : List Int → Int → Prop} (hQ : DQ t Q) (g : Nat) (hg : 1000000000000000000 ≤ g) (u : List Int) : ∃ d, M_b_Distances g t u = some d ∧ DInv t Q d := by
  have hgood := (small_good hsm).1
  have hal := allF_len t hsm
  obtain ⟨es, h1, h2, h3⟩ := edges_eq hsm
  have hd0 : DInv t Q ((allF t).map fun s => if holdsF s t.Goal = true then 0 else infD) := by
    refine ⟨List.length_map _, fun i s x hs hx => ?_⟩
    rw [List.getElem?_map, hs] at hx
    simp only [Option.map_some, Option.some.injEq] at hx
    subst hx
    by_cases hh : holdsF s t.Goal = true
    · rw [if_pos hh]; exact ⟨by decide, by decide, fun _ => hQ.goal s (List.mem_of_getElem? hs) hh⟩
    · rw [if_neg hh]; exact ⟨by decide, by decide, fun h => absurd rfl h⟩
  have hsum := sum_le infD _ (fun x hx => (hd0.all x hx).2)
  rw [hd0.len] at hsum
  have hle : infD * ((allF t).length : Int) ≤ infD * 512 := Int.mul_le_mul_of_nonneg_left (by omega) (by decide)
  have hs2 : ((allF t).map fun s => if holdsF s t.Goal = true then 0 else infD).sum ≤ (576460752303423488 : Nat) := Int.le_trans hsum (Int.le_trans hle (by decide))
  obtain ⟨d, e1, e2⟩ := dis3 hgood hQ es h3 h2 hal 576460752303423488 g _ hd0 hs2 (by omega)
  refine ⟨d, ?_, e2⟩
  have hrep : (List.replicate ((((allF t).map cL_cI).length : Int)).toNat (0 : Int)).length = (allF t).length := by rw [List.length_replicate, List.length_map, Int.toNat_natCast]
  have hd1 := dis1 hgood (allF t) 0 (List.replicate ((((allF t).map cL_cI).length : Int)).toNat 0) rfl hrep
  have hd1' : Rg (M_b_Distances_L1_B t (allF t)) (M_b_Distances_L1_E t (allF t)) (allF t) 0 (List.replicate ((((allF t).map cL_cI).length : Int)).toNat 0) = _ := hd1
  have hlm : ((allF t).map cL_cI).length = (allF t).length := List.length_map _
  rw [M_b_Distances, states_eq t hsm, ob1_some, grd_t (by omega), grd_t (by omega), M_b_Distances_L1_eq t (allF t) _ (by omega), hd1', List.take_zero, List.nil_append, ob1_some, h1, ob1_some]
  exact e1
end Go.Proofs.YtohjegemooakpaaGreat.Am
/- Plain: stratagembase.Distances at its end: no way back makes a distance less. -/
namespace Go.Proofs.YtohjegemooakpaaGreat.Am
open Go.RowKit
theorem ext_at (u : List Int) : ∀ (m : Nat) (j : Int) (x : Nat) (z : List Int), (extF u m j)[x]? = some z → x < m ∧ z = u ++ [j + (x : Int)]
  | 0, j, x, z, h => by simp [extF] at h
  | m + 1, j, 0, z, h => by
    simp only [extF, List.getElem?_cons_zero, Option.some.injEq] at h
    exact ⟨by omega, by rw [← h]; simp⟩
  | m + 1, j, x + 1, z, h => by
    rw [extF, List.getElem?_cons_succ] at h
    obtain ⟨h1, h2⟩ := ext_at u m (j + 1) x z h
    refine ⟨by omega, ?_⟩
    rw [h2, show j + 1 + (x : Int) = j + ((x + 1 : Nat) : Int) from by omega]
theorem flat_inv (m : Nat) : ∀ (out : List (List Int)) (j : Nat) (z : List Int), (out.flatMap fun s => extF s m 0)[j]? = some z → ∃ (i x : Nat) (s : List Int), j = i * m + x ∧ x < m ∧ out[i]? = some s ∧ z = s ++ [(x : Int)]
  | [], j, z, h => by simp at h
  | u :: out, j, z, h => by
    rw [List.flatMap_cons] at h
    by_cases hj : j < (extF u m 0).length
    · rw [List.getElem?_append_left hj] at h
      obtain ⟨h1, h2⟩ := ext_at u m 0 j z h
      exact ⟨0, j, u, by omega, h1, rfl, by rw [h2]; congr 2; omega⟩
    · rw [List.getElem?_append_right (by omega), extF_len] at h
      rw [extF_len] at hj
      obtain ⟨i, x, s, e1, e2, e3, e4⟩ := flat_inv m out (j - m) z h
      exact ⟨i + 1, x, s, by rw [Nat.add_mul]; omega, e2, by rw [List.getElem?_cons_succ]; exact e3, e4⟩
theorem rank_inv : ∀ (r : List Int) (out : List (List Int)) (k : Nat) (z : List Int), (∀ y ∈ r, 1 ≤ y) → (statesG r out)[k]? = some z → ∃ (i : Nat) (s u : List Int), out[i]? = some s ∧ z = s ++ u ∧ stateF r u = true ∧ rankF r u i = (k : Int)
  | [], out, k, z, _, h => ⟨k, z, [], h, (List.append_nil z).symm, rfl, rfl⟩
  | y :: r, out, k, z, hy, h => by
    rw [statesG] at h
    obtain ⟨j, s, u, h1, h2, h3, h4⟩ := rank_inv r _ k z (fun x hx => hy x (List.mem_cons_of_mem _ hx)) h
    obtain ⟨i, x, s0, e1, e2, e3, e4⟩ := flat_inv y.toNat out j s h1
    have hy0 := hy y (List.mem_cons_self ..)
    refine ⟨i, s0, (x : Int) :: u, e3, by rw [h2, e4, List.append_assoc]; rfl, ?_, ?_⟩
    · rw [stateF, Bool.and_eq_true, decide_eq_true_iff]
      exact ⟨by omega, h3⟩
    · rw [rankF, ← h4, e1, Int.natCast_add, Int.natCast_mul, show ((y.toNat : Nat) : Int) = y from by omega]
/-- each state has one place -/
theorem place_one {t : GTask} (hgood : goodF t = true) {i j : Nat} {s : List Int} (hi : (allF t)[i]? = some s) (hj : (allF t)[j]? = some s) : i = j := by
  have key : ∀ k : Nat, (allF t)[k]? = some s → rankF t.Vars s 0 = (k : Int) := fun k hk => by
    obtain ⟨i0, s0, u, h1, h2, -, h4⟩ := rank_inv t.Vars [[]] k s (fun y hy => ((good_dom hgood).dom y hy).1) hk
    cases i0 with
    | zero =>
      simp only [List.getElem?_cons_zero, Option.some.injEq] at h1
      subst h1
      rw [List.nil_append] at h2
      subst h2
      exact h4
    | succ i0 => simp at h1
  have h1 := key i hi
  have h2 := key j hj
  omega
/-- the way of an operator from a state -/
def EdgI (t : GTask) (i q : Nat) (o : GOp) (s : List Int) (e : GEdge) : Prop := ∃ k : Nat, e = { From := (i : Int), Op := (q : Int), To := (k : Int) } ∧ (allF t)[k]? = some (nextF s o)
theorem edges1c {t : GTask} (hsm : smallF t = true) (i : Nat) (s : List Int) (hi : (allF t)[i]? = some s) : ∀ (l : List GOp) (m j : Nat) (v : List GEdge), t.Ops.drop j = l → l.length = m → v.length + m ≤ 100000 →
    ∃ v', Rn (M_b_Edges_L1_B t i s) (M_b_Edges_L1_E t i s) m j v = some v' ∧ v'.length ≤ v.length + m ∧ (∀ e ∈ v, e ∈ v') ∧ ∀ q o, j ≤ q → t.Ops[q]? = some o → holdsF s o.Pre = true → ∃ e ∈ v', EdgI t i q o s e
  | [], m, j, v, hdr, hm, _ => by
    subst hm
    refine ⟨v, rfl, Nat.le_refl _, fun _ h => h, fun q o hq ho _ => ?_⟩
    have hlt := (List.getElem?_eq_some_iff.1 ho).1
    have hn := congrArg List.length hdr
    simp only [List.length_drop, List.length_nil] at hn
    omega
  | o :: os, m, j, v, hdr, hm, hlen => by
    have hgood := (small_good hsm).1
    obtain ⟨hj, hd', hlt⟩ := drop_cons hdr
    obtain ⟨m, rfl⟩ : ∃ k, m = k + 1 := ⟨os.length, hm.symm⟩
    have hst := (allF_mem t s).1 (List.mem_of_getElem? hi)
    have hm' : os.length = m := by simpa using hm
    rw [Rn, M_b_Edges_L1_B, apply_eq t hgood s (stateF_st hst) j o hj]
    by_cases hp : holdsF s o.Pre = true
    · obtain ⟨k, e1, e2⟩ := rank_eq hsm (next_state hgood hst (List.mem_of_getElem? hj))
      rw [if_pos hp, ob2_some, sel_tt, e1, ob1_some, grd_t (by omega)]
      obtain ⟨v', h1, h2, h3, h4⟩ := edges1c hsm i s hi os m (j + 1) (v ++ [{ From := (i : Int), Op := (j : Int), To := (k : Int) }]) hd' hm' (by simp; omega)
      refine ⟨v', h1, by simp at h2; omega, fun e he => h3 e (List.mem_append.2 (.inl he)), fun q u hq hu hpu => ?_⟩
      rcases Nat.lt_or_ge j q with hjq | hjq
      · exact h4 q u (by omega) hu hpu
      · obtain rfl : q = j := by omega
        rw [hj] at hu
        injection hu with hu
        subst hu
        exact ⟨_, h3 _ (List.mem_append.2 (.inr (List.mem_singleton.2 rfl))), k, rfl, e2⟩
    · rw [if_neg hp, ob2_some, sel_ff]
      obtain ⟨v', h1, h2, h3, h4⟩ := edges1c hsm i s hi os m (j + 1) v hd' hm' (by omega)
      refine ⟨v', h1, by omega, h3, fun q u hq hu hpu => ?_⟩
      rcases Nat.lt_or_ge j q with hjq | hjq
      · exact h4 q u (by omega) hu hpu
      · obtain rfl : q = j := by omega
        rw [hj] at hu
        injection hu with hu
        subst hu
        exact absurd hpu hp
theorem edges2c {t : GTask} (hsm : smallF t = true) : ∀ (r : List (List Int)) (i : Nat) (v : List GEdge), (allF t).drop i = r → v.length + r.length * 20 ≤ 100000 →
    ∃ v', Rg (M_b_Edges_L2_B t (allF t)) (M_b_Edges_L2_E t (allF t)) r i v = some v' ∧ (∀ e ∈ v, e ∈ v') ∧ ∀ k s q o, i ≤ k → (allF t)[k]? = some s → t.Ops[q]? = some o → holdsF s o.Pre = true → ∃ e ∈ v', EdgI t k q o s e
  | [], i, v, hdr, hl => by
    refine ⟨v, by rw [Rg, M_b_Edges_L2_E, grd_t (by simp at hl; omega)], fun _ h => h, fun k s q o hk hs _ _ => ?_⟩
    have hlt := (List.getElem?_eq_some_iff.1 hs).1
    have hn := congrArg List.length hdr
    simp only [List.length_drop, List.length_nil] at hn
    omega
  | s :: r, i, v, hdr, hl => by
    obtain ⟨hi, hd', hlt⟩ := drop_cons hdr
    have hops := (small_good hsm).2.2
    rw [List.length_cons] at hl
    rw [Rg, M_b_Edges_L2_B, ixv, M_b_Edges_L1_eq t i s v (m := t.Ops.length) (by rw [List.length_map]) (by omega)]
    obtain ⟨v1, h1, h2, h3, h4⟩ := edges1c hsm i s hi t.Ops t.Ops.length 0 v rfl rfl (by omega)
    have h1' : Rn (M_b_Edges_L1_B t i s) (M_b_Edges_L1_E t i s) t.Ops.length 0 v = some v1 := h1
    rw [h1', ob1_some]
    obtain ⟨v', g1, g2, g3⟩ := edges2c hsm r (i + 1) v1 hd' (by omega)
    refine ⟨v', g1, fun e he => g2 e (h3 e he), fun k u q o hk hu ho hp => ?_⟩
    rcases Nat.lt_or_ge i k with hik | hik
    · exact g3 k u q o (by omega) hu ho hp
    · obtain rfl : k = i := by omega
      rw [hi] at hu
      injection hu with hu
      subst hu
      obtain ⟨e, he, hx⟩ := h4 q o (Nat.zero_le _) ho hp
      exact ⟨e, g2 e he, hx⟩
theorem edges_all {t : GTask} (hsm : smallF t = true) : ∃ es, M_b_Edges t = some es ∧ es.length ≤ 100000 ∧ (∀ e ∈ es, EdgP t e) ∧ ∀ k s q o, (allF t)[k]? = some s → t.Ops[q]? = some o → holdsF s o.Pre = true → ∃ e ∈ es, EdgI t k q o s e := by
  have hal := allF_len t hsm
  obtain ⟨es, h1, h2, h3⟩ := edges_eq hsm
  obtain ⟨es', g1, -, g3⟩ := edges2c hsm (allF t) 0 [] rfl (by simp; omega)
  have he : M_b_Edges t = some es' := by
    rw [M_b_Edges, states_eq t hsm, ob1_some, M_b_Edges_L2_eq t (allF t) [] (by omega)]
    exact g1
  rw [h1] at he
  obtain rfl := Option.some.inj he
  exact ⟨es, h1, h2, h3, fun k s q o hk ho hp => g3 k s q o (Nat.zero_le _) hk ho hp⟩
/-- how many distances are finite -/
def finN (d : List Int) : Nat := (d.filter fun x => decide (x ≠ infD)).length
theorem finN_set : ∀ (d : List Int) (a : Nat) (y v : Int), d[a]? = some y → v ≠ infD → finN (d.set a v) = finN d + (if y = infD then 1 else 0)
  | [], a, y, v, h, _ => by simp at h
  | z :: d, 0, y, v, h, hv => by
    simp only [List.getElem?_cons_zero, Option.some.injEq] at h
    subst h
    unfold finN
    rw [List.set_cons_zero, List.filter_cons, List.filter_cons, if_pos (decide_eq_true hv)]
    by_cases hz : z = infD
    · rw [if_neg (by simp [hz]), if_pos hz, List.length_cons]
    · rw [if_pos (decide_eq_true hz), if_neg hz, List.length_cons, List.length_cons, Nat.add_zero]
  | z :: d, a + 1, y, v, h, hv => by
    rw [List.getElem?_cons_succ] at h
    have ih := finN_set d a y v h hv
    unfold finN at ih ⊢
    rw [List.set_cons_succ, List.filter_cons, List.filter_cons]
    split
    · rw [List.length_cons, List.length_cons, ih]; omega
    · exact ih
theorem finN_le (d : List Int) : finN d ≤ d.length := List.length_filter_le _ _
/-- goal states have distance 0 -/
structure DG (t : GTask) (d : List Int) : Prop where
  len : d.length = (allF t).length
  ok : ∀ (i : Nat) (s : List Int) (x : Int), (allF t)[i]? = some s → d[i]? = some x → 0 ≤ x ∧ x ≤ infD ∧ (holdsF s t.Goal = true → x = 0)
  bnd : ∀ x ∈ d, x ≠ infD → x ≤ 1048576 * (finN d : Int)
theorem DG.all {t : GTask} {d : List Int} (h : DG t d) : ∀ x ∈ d, 0 ≤ x ∧ x ≤ infD := fun x hx => by
  obtain ⟨i, hi⟩ := List.getElem?_of_mem hx
  have hlt := (List.getElem?_eq_some_iff.1 hi).1
  have hs : (allF t)[i]? = some ((allF t)[i]'(by rw [← h.len]; exact hlt)) := List.getElem?_eq_getElem _
  obtain ⟨h1, h2, -⟩ := h.ok i _ x hs hi
  exact ⟨h1, h2⟩
/-- no way makes a distance less -/
def Calm (t : GTask) (d : List Int) (e : GEdge) : Prop := ∀ (a b q : Nat) (o : GOp) (x y : Int), e = { From := (a : Int), Op := (q : Int), To := (b : Int) } → t.Ops[q]? = some o → d[b]? = some x → d[a]? = some y → x < infD → y ≤ x + o.Cost
theorem dis2c {t : GTask} (hgood : goodF t = true) (es : List GEdge) : ∀ (r : List GEdge) (i : Int) (b : Bool) (d : List Int), (∀ e ∈ r, EdgP t e) → DG t d →
    ∃ b' d', Rg (M_b_Distances_L2_B t es) (M_b_Distances_L2_E t es) r i (b, d) = some (b', d') ∧ DG t d' ∧ ((b' = b ∧ d' = d ∧ ∀ e ∈ r, Calm t d e) ∨ (b' = true ∧ d'.sum < d.sum))
  | [], i, b, d, _, hd => ⟨b, d, rfl, hd, .inl ⟨rfl, rfl, fun e he => by cases he⟩⟩
  | e :: r, i, b, d, he, hd => by
    have her : ∀ e ∈ r, EdgP t e := fun u hu => he u (List.mem_cons_of_mem _ hu)
    obtain ⟨a, bb, q, s, o, e1, e2, e3, h1, h2, h3, h4⟩ := (he e (List.mem_cons_self ..)).ex
    obtain ⟨F, O, T⟩ := e
    simp only at e1 e2 e3
    subst e1 e2 e3
    have ho := List.mem_of_getElem? h3
    have hcost := good_cost hgood ho
    have hla : a < d.length := by rw [hd.len]; exact (List.getElem?_eq_some_iff.1 h1).1
    have hlb : bb < d.length := by rw [hd.len]; exact (List.getElem?_eq_some_iff.1 h2).1
    obtain ⟨x, hx⟩ : ∃ x, d[bb]? = some x := ⟨_, List.getElem?_eq_getElem hlb⟩
    obtain ⟨y, hy⟩ : ∃ y, d[a]? = some y := ⟨_, List.getElem?_eq_getElem hla⟩
    obtain ⟨x0, x1, -⟩ := hd.ok bb _ x h2 hx
    obtain ⟨y0, y1, yq⟩ := hd.ok a s y h1 hy
    have hcalm : (x < infD → y ≤ x + o.Cost) → Calm t d { From := (a : Int), Op := (q : Int), To := (bb : Int) } := fun hh a' b' q' o' x' y' e ho' hx' hy' hlt => by
      simp only [GEdge.mk.injEq] at e
      obtain ⟨ea, eq, eb⟩ := e
      obtain rfl : a' = a := by omega
      obtain rfl : b' = bb := by omega
      obtain rfl : q' = q := by omega
      rw [h3] at ho'; rw [hx] at hx'; rw [hy] at hy'
      injection ho' with ho'; injection hx' with hx'; injection hy' with hy'
      subst ho' hx' hy'
      exact hh hlt
    unfold infD at x1 y1 hcalm
    have hw : IntKind.i64.wrap (x + o.Cost) = x + o.Cost := wrap_eq (by omega) (by omega)
    have hcons : (x < 1125899906842624 → y ≤ x + o.Cost) → ∃ b' d', Rg (M_b_Distances_L2_B t es) (M_b_Distances_L2_E t es) r (i + 1) (b, d) = some (b', d') ∧ DG t d' ∧ ((b' = b ∧ d' = d ∧ ∀ e ∈ ({ From := (a : Int), Op := (q : Int), To := (bb : Int) } : GEdge) :: r, Calm t d e) ∨ (b' = true ∧ d'.sum < d.sum)) := fun hh => by
      obtain ⟨b', d', g1, g2, g3⟩ := dis2c hgood es r (i + 1) b d her hd
      refine ⟨b', d', g1, g2, g3.imp (fun ⟨q1, q2, q3⟩ => ⟨q1, q2, fun e he => ?_⟩) id⟩
      rcases List.mem_cons.1 he with rfl | he
      · exact hcalm hh
      · exact q3 e he
    rw [Rg, M_b_Distances_L2_B]
    simp only [ixv, ix_at h3, ob1_some, Int.toNat_natCast, ixn_at hx, ixn_at hy, sel_dec]
    by_cases hlt : x < 1125899906842624
    · rw [if_pos hlt, grd_t (by omega), grd_t (by omega), grd_t (by omega), grd_t (by omega), ob1_some, hw]
      by_cases hr : x + o.Cost < y
      · rw [decide_eq_true hr, sel_tt, grd_t (by omega), grd_t (by omega), grd_t (by omega), grd_t (by omega)]
        have hd1 : DG t (d.set a (x + o.Cost)) := by
          have hbx := hd.bnd x (List.mem_of_getElem? hx) (by unfold infD; omega)
          have hfin := finN_set d a y (x + o.Cost) hy (by unfold infD; omega)
          refine ⟨by rw [List.length_set]; exact hd.len, fun i s' z hs' hz => ?_, fun z hz hne => ?_⟩
          rotate_left
          · rw [hfin]
            rcases List.mem_or_eq_of_mem_set hz with hz | rfl
            · have := hd.bnd z hz hne
              split <;> omega
            · by_cases hyi : y = infD
              · rw [if_pos hyi]; omega
              · have := hd.bnd y (List.mem_of_getElem? hy) hyi
                rw [if_neg hyi]; omega
          by_cases hai : a = i
          · subst hai
            rw [List.getElem?_set_self hla] at hz
            injection hz with hz
            rw [h1] at hs'
            injection hs' with hs'
            subst hz hs'
            exact ⟨by omega, by unfold infD; omega, fun hg => by have := yq hg; omega⟩
          · rw [List.getElem?_set_ne hai] at hz
            exact hd.ok i s' z hs' hz
        obtain ⟨b', d', g1, g2, g3⟩ := dis2c hgood es r (i + 1) true _ her hd1
        have hsum := sum_set (x + o.Cost) d a y hy
        refine ⟨b', d', g1, g2, .inr ?_⟩
        rcases g3 with ⟨g3, g4, -⟩ | ⟨g3, g4⟩
        · exact ⟨g3, by rw [g4, hsum]; omega⟩
        · exact ⟨g3, by rw [hsum] at g4; omega⟩
      · rw [decide_eq_false hr, sel_ff]
        exact hcons (fun _ => by omega)
    · rw [if_neg hlt, grd_t (by omega), grd_t (by omega), ob1_some, sel_ff]
      exact hcons (fun h => absurd h hlt)
theorem dis3c {t : GTask} (hgood : goodF t = true) (es : List GEdge) (hes : ∀ e ∈ es, EdgP t e) (hlen : es.length ≤ 100000) (hal : (allF t).length ≤ 512) : ∀ (S k : Nat) (d : List Int), DG t d → d.sum ≤ S → S + 2 ≤ k → ∃ d', M_b_Distances_L3 t es k true d = some d' ∧ DG t d' ∧ ∀ e ∈ es, Calm t d' e := by
  intro S
  induction S with
  | zero =>
    intro k d hd hs hk
    obtain ⟨k, rfl⟩ : ∃ j, k = j + 2 := ⟨k - 2, by omega⟩
    obtain ⟨b', d', g1, g2, g3⟩ := dis2c hgood es es 0 false d hes hd
    have hpos := sum_pos d' (fun x hx => (g2.all x hx).1)
    rcases g3 with ⟨rfl, rfl, g5⟩ | ⟨-, g4⟩
    · refine ⟨d', ?_, g2, g5⟩
      have hl := g2.len
      rw [M_b_Distances_L3, sel_tt, M_b_Distances_L2_eq t es false d' (by omega), g1, ob1_some]
      simp only
      rw [M_b_Distances_L3, sel_ff, grd_t (by omega)]
    · omega
  | succ S ih =>
    intro k d hd hs hk
    obtain ⟨k, rfl⟩ : ∃ j, k = j + 2 := ⟨k - 2, by omega⟩
    obtain ⟨b', d', g1, g2, g3⟩ := dis2c hgood es es 0 false d hes hd
    rw [M_b_Distances_L3, sel_tt, M_b_Distances_L2_eq t es false d (by omega), g1, ob1_some]
    simp only
    rcases g3 with ⟨rfl, rfl, g5⟩ | ⟨rfl, g4⟩
    · have hl := g2.len
      exact ⟨d', by rw [M_b_Distances_L3, sel_ff, grd_t (by omega)], g2, g5⟩
    · exact ih (k + 1) d' g2 (by omega) (by omega)
/-- the distances, at the end -/
structure DFix (t : GTask) (d : List Int) : Prop where
  g : DG t d
  step : ∀ (i k : Nat) (s : List Int) (o : GOp) (x y : Int), (allF t)[i]? = some s → o ∈ t.Ops → holdsF s o.Pre = true → (allF t)[k]? = some (nextF s o) → d[k]? = some x → d[i]? = some y → x < infD → y ≤ x + o.Cost
theorem fix_eq {t : GTask} (hsm : smallF t = true) (g : Nat) (hg : 1000000000000000000 ≤ g) (u : List Int) : ∃ d, M_b_Distances g t u = some d ∧ DFix t d := by
  have hgood := (small_good hsm).1
  have hal := allF_len t hsm
  obtain ⟨es, h1, h2, h3, h4⟩ := edges_all hsm
  have hd0 : DG t ((allF t).map fun s => if holdsF s t.Goal = true then 0 else infD) := by
    refine ⟨List.length_map _, fun i s x hs hx => ?_, fun x hx hne => ?_⟩
    · rw [List.getElem?_map, hs] at hx
      simp only [Option.map_some, Option.some.injEq] at hx
      subst hx
      by_cases hh : holdsF s t.Goal = true
      · rw [if_pos hh]; exact ⟨by decide, by decide, fun _ => rfl⟩
      · rw [if_neg hh]; exact ⟨by decide, by decide, fun h => absurd h hh⟩
    · obtain ⟨s, -, rfl⟩ := List.mem_map.1 hx
      by_cases hh : holdsF s t.Goal = true
      · rw [if_pos hh]; omega
      · rw [if_neg hh] at hne; exact absurd rfl hne
  have hsum := sum_le infD _ (fun x hx => (hd0.all x hx).2)
  rw [hd0.len] at hsum
  have hle : infD * ((allF t).length : Int) ≤ infD * 512 := Int.mul_le_mul_of_nonneg_left (by omega) (by decide)
  have hs2 : ((allF t).map fun s => if holdsF s t.Goal = true then 0 else infD).sum ≤ (576460752303423488 : Nat) := Int.le_trans hsum (Int.le_trans hle (by decide))
  obtain ⟨d, e1, e2, e3⟩ := dis3c hgood es h3 h2 hal 576460752303423488 g _ hd0 hs2 (by omega)
  refine ⟨d, ?_, e2, fun i k s o x y hi ho hp hk hx hy hlt => ?_⟩
  · have hrep : (List.replicate ((((allF t).map cL_cI).length : Int)).toNat (0 : Int)).length = (allF t).length := by rw [List.length_replicate, List.length_map, Int.toNat_natCast]
    have hd1 := dis1 hgood (allF t) 0 (List.replicate ((((allF t).map cL_cI).length : Int)).toNat 0) rfl hrep
    have hd1' : Rg (M_b_Distances_L1_B t (allF t)) (M_b_Distances_L1_E t (allF t)) (allF t) 0 (List.replicate ((((allF t).map cL_cI).length : Int)).toNat 0) = _ := hd1
    have hlm : ((allF t).map cL_cI).length = (allF t).length := List.length_map _
    rw [M_b_Distances, states_eq t hsm, ob1_some, grd_t (by omega), grd_t (by omega), M_b_Distances_L1_eq t (allF t) _ (by omega), hd1', List.take_zero, List.nil_append, ob1_some, h1, ob1_some]
    exact e1
  · obtain ⟨q, hq⟩ := List.getElem?_of_mem ho
    obtain ⟨e, he, kk, hee, hkk⟩ := h4 i s q o hi hq hp
    have := place_one hgood hk hkk
    subst this
    exact e3 e he i k q o x y hee hq hx hy hlt
end Go.Proofs.YtohjegemooakpaaGreat.Am
/- Plain law: CertifyExact. -/
namespace Go.Proofs.YtohjegemooakpaaGreat.Am
open Go.RowKit
theorem awakeE : M_l32_awake 1000000000000000000 = some true := by kernel_rfl
/-- the distances of the reference: the cost of a way, and no way costs less -/
theorem fix_rch {t : GTask} (hsm : smallF t = true) {d : List Int} (hd : DFix t d) {b : Int} (hb : 0 ≤ b) {s : List Int} {x : Int} (h : Rch t b s x) : ∀ (i : Nat) (y : Int), (allF t)[i]? = some s → d[i]? = some y → x < 1125899906842624 - 2000000 → 0 ≤ x ∧ y ≤ x := by
  have hgood := (small_good hsm).1
  induction h with
  | @goal s hg =>
    intro i y hi hy _
    have := (hd.g.ok i s y hi hy).2.2 hg
    omega
  | @step s o c ho hp hr ih =>
    intro i y hi hy hx
    have hc := op_cost hgood ho
    have hwc : wc b o = o.Cost := if_neg (by omega)
    rw [hwc] at hx ⊢
    have hs : stateF t.Vars s = true := (allF_mem t s).1 (List.mem_of_getElem? hi)
    obtain ⟨k, -, hk⟩ := rank_all (next_state hgood hs ho)
    have hlt : k < d.length := by rw [hd.g.len]; exact (List.getElem?_eq_some_iff.1 hk).1
    have hz : d[k]? = some d[k] := List.getElem?_eq_getElem hlt
    obtain ⟨h1, h2⟩ := ih k _ hk hz (by omega)
    have := hd.step i k s o _ y hi ho hp hk hz hy (by show d[k] < 1125899906842624; omega)
    omega
theorem fix_rch0 {t : GTask} (hsm : smallF t = true) {d : List Int} (hd : DFix t d) {b : Int} {s : List Int} {x : Int} (h : Rch t b s x) : ∀ (i : Nat) (y : Int), (allF t)[i]? = some s → d[i]? = some y → y < 1125899906842624 := by
  have hgood := (small_good hsm).1
  have hal := allF_len t hsm
  have hfin : ∀ (i : Nat) (y : Int), d[i]? = some y → y ≠ 1125899906842624 → y ≤ 1048576 * 512 := fun i y hy hne => by
    have h1 := hd.g.bnd y (List.mem_of_getElem? hy) hne
    have h2 := finN_le d
    have h3 := hd.g.len
    omega
  induction h with
  | @goal s hg =>
    intro i y hi hy
    have := (hd.g.ok i s y hi hy).2.2 hg
    omega
  | @step s o c ho hp hr ih =>
    intro i y hi hy
    have hc := op_cost hgood ho
    have hs : stateF t.Vars s = true := (allF_mem t s).1 (List.mem_of_getElem? hi)
    obtain ⟨k, -, hk⟩ := rank_all (next_state hgood hs ho)
    have hlt : k < d.length := by rw [hd.g.len]; exact (List.getElem?_eq_some_iff.1 hk).1
    have hz : d[k]? = some d[k] := List.getElem?_eq_getElem hlt
    have h1 := ih k _ hk hz
    have h2 := hd.step i k s o _ y hi ho hp hk hz hy h1
    have h3 := hfin k _ hz (by omega)
    omega
/-- whatever reaches the goal below the bound has a nogood with at most its distance -/
def LowQ (b : Int) (ns : List Nogood) (s : List Int) (x : Int) : Prop := (b < 0 ∨ x < b) → ∃ n ∈ ns, n.2 ≤ (if b < 0 then 0 else x) ∧ holdsF s n.1 = true
theorem low_dq {t : GTask} (hf : Fit t) {b : Int} {ns : List Nogood} (hI : Inv t b [] ns) : DQ t (LowQ b ns) := by
  have hneed : ∀ p d, Need t b ns p d → Covd ns p d := fun p d h => by
    rcases hI.need p d h with h | ⟨e, he, _⟩
    · exact h
    · cases he
  refine ⟨fun s _ hg _ => ?_, fun s hs o ho hp x hx hQ hlt => ?_⟩
  · obtain ⟨n, hn, h1, h2⟩ := hneed t.Goal 0 (.inl ⟨rfl, rfl⟩)
    exact ⟨n, hn, by split <;> omega, holdsF_sub h2 hg⟩
  · have hc := op_cost hf.good ho
    obtain ⟨n, hn, h1, h2⟩ := hQ (by omega)
    have hnp := hI.nP n hn
    have hsF := (allF_mem t s).1 hs
    have st := stateF_st hsF
    obtain ⟨l, l1, l2, -⟩ := regT hf.cap hf.good hnp.prop ho
    have hsome := (some_regO hf.good ho st hnp.prop l1).2 ⟨hp, (holds_next hf.good st ho hnp.prop).1 h2⟩
    obtain ⟨z, hz, hzs⟩ := hsome
    have hn2 := hnp.d2
    have hle : b < 0 ∨ n.2 + o.Cost < b := by
      rcases hlt with h | h
      · exact .inl h
      · by_cases hbn : b < 0
        · exact .inl hbn
        · rw [if_neg hbn] at h1; exact .inr (by omega)
    obtain ⟨m, hm, m1, m2⟩ := hneed z (if b < 0 then 0 else n.2 + o.Cost) (.inr ⟨n, hn, o, ⟨ho, hle, rfl⟩, l, l1, hz⟩)
    refine ⟨m, hm, ?_, holdsF_sub m2 hzs⟩
    by_cases hbn : b < 0
    · rw [if_pos hbn] at m1 ⊢; exact m1
    · rw [if_neg hbn] at m1 h1 ⊢; omega
/-- the least distance of the nogoods that hold -/
def leastF (s : List Int) : List Nogood → Int → Int
  | [], v => v
  | n :: r, v => leastF s r (if holdsF s n.1 = true then min v n.2 else v)
theorem leastF_le (s : List Int) : ∀ (l : List Nogood) (v : Int), leastF s l v ≤ v ∧ ∀ n ∈ l, holdsF s n.1 = true → leastF s l v ≤ n.2
  | [], v => ⟨Int.le_refl _, fun n hn => by cases hn⟩
  | m :: r, v => by
    obtain ⟨h1, h2⟩ := leastF_le s r (if holdsF s m.1 = true then min v m.2 else v)
    rw [leastF]
    refine ⟨by split at h1 <;> split <;> simp_all <;> omega, fun n hn hh => ?_⟩
    rcases List.mem_cons.1 hn with rfl | hn
    · rw [if_pos hh] at h1 ⊢; omega
    · exact h2 n hn hh
theorem leastF_or (s : List Int) : ∀ (l : List Nogood) (v : Int), leastF s l v = v ∨ ∃ n ∈ l, holdsF s n.1 = true ∧ leastF s l v = n.2
  | [], v => .inl rfl
  | m :: r, v => by
    rw [leastF]
    rcases leastF_or s r (if holdsF s m.1 = true then min v m.2 else v) with h | ⟨n, hn, h1, h2⟩
    · by_cases hh : holdsF s m.1 = true
      · rw [if_pos hh] at h ⊢
        rcases Int.le_total v m.2 with hle | hle
        · exact .inl (by rw [h]; omega)
        · exact .inr ⟨m, List.mem_cons_self .., hh, by rw [h]; omega⟩
      · rw [if_neg hh] at h ⊢; exact .inl h
    · exact .inr ⟨n, List.mem_cons_of_mem _ hn, h1, h2⟩
theorem least_loop {vars : List Int} (hv : vars.length ≤ 64) (s : List Int) (c : GCertificate) : ∀ (r : List Nogood) (i v : Int), (∀ n ∈ r, propF vars (-1) n.1 = true) → Rg (M_l32_CertifyExact_L1_B s c) (M_l32_CertifyExact_L1_E s c) r i v = some (leastF s r v)
  | [], i, v, _ => rfl
  | n :: r, i, v, h => by
    rw [Rg, M_l32_CertifyExact_L1_B, ixv, holds_eq n.1 s (prop_sh hv (h n (List.mem_cons_self ..))), ob1_some, leastF, sel_if]
    split
    · exact least_loop hv s c r _ _ (fun m hm => h m (List.mem_cons_of_mem _ hm))
    · exact least_loop hv s c r _ _ (fun m hm => h m (List.mem_cons_of_mem _ hm))
theorem exact_loop {t : GTask} (hf : Fit t) {b : Int} {c : GCertificate} {d : List Int} (hp : ∀ n ∈ c.Nogoods, propF t.Vars (-1) n.1 = true) (hl : c.Nogoods.length ≤ 4096) (hd : d.length = (allF t).length)
    (hneg : b < 0 → ∀ (i : Nat) (s : List Int) (y : Int), (allF t)[i]? = some s → d[i]? = some y → (leastF s c.Nogoods 1125899906842624 < 1125899906842624 ↔ y < 1125899906842624))
    (hpos : 0 ≤ b → ∀ (i : Nat) (s : List Int) (y : Int), (allF t)[i]? = some s → d[i]? = some y → (y < b → leastF s c.Nogoods 1125899906842624 = y) ∧ (y ≥ b → ¬ leastF s c.Nogoods 1125899906842624 < 1125899906842624)) :
    ∀ (r : List (List Int)) (n : Nat), (allF t).drop n = r → Rg (M_l32_CertifyExact_L2_B b c d (allF t)) (M_l32_CertifyExact_L2_E b c d (allF t)) r n () = some true
  | [], n, _ => rfl
  | s :: r, n, hdr => by
    obtain ⟨hs, hdr', hlt⟩ := drop_cons hdr
    have hy : d[n]? = some (d[n]'(by omega)) := List.getElem?_eq_getElem _
    have hv : t.Vars.length ≤ 64 := by have := hf.cap.len; omega
    have ih := exact_loop hf hp hl hd hneg hpos r (n + 1) hdr'
    rw [show ((n + 1 : Nat) : Int) = (n : Int) + 1 from rfl] at ih
    have h1 := least_loop hv s c c.Nogoods 0 1125899906842624 hp
    have e1 := M_l32_CertifyExact_L1_eq s c 1125899906842624 (by omega)
    rw [h1] at e1
    obtain ⟨y, hye⟩ : ∃ y, d[n]'(by omega) = y := ⟨_, rfl⟩
    rw [hye] at hy
    rw [Rg, M_l32_CertifyExact_L2_B, ixv]
    show ob1 (ob1 (M_l32_CertifyExact_L1 s c ((((c.Nogoods.map cN).length : Int)).toNat + 1) 1125899906842624 0) _) _ = _
    rw [e1, ob1_some]
    generalize hL : leastF s c.Nogoods 1125899906842624 = L
    have hres : (sel (decide (b < 0)) (ix d (n : Int) (fun y200 => sel (!((decide (L < 1125899906842624)) == (decide (y200 < 1125899906842624)))) (some (.inr false)) (some (.inl ()))))
        (ix d (n : Int) (fun y201 => sel (decide (y201 < b)) (ix d (n : Int) (fun y202 => sel (L != y202) (some (.inr false)) (ix d (n : Int) (fun y203 => sel (decide (y203 ≥ b)) (sel (decide (L < 1125899906842624)) (some (.inr false)) (some (.inl ()))) (some (.inl ()))))))
          (ix d (n : Int) (fun y204 => sel (decide (y204 ≥ b)) (sel (decide (L < 1125899906842624)) (some (.inr false)) (some (.inl ()))) (some (.inl ())))))) : Option (Unit ⊕ Bool)) = some (.inl ()) := by
      simp only [ix_at hy, sel_dec]
      by_cases hb : b < 0
      · rw [if_pos hb]
        have := hneg hb n s y hs hy
        rw [hL] at this
        rw [decide_eq_decide.2 this, beq_self_eq_true]
        rfl
      · rw [if_neg hb]
        obtain ⟨q1, q2⟩ := hpos (by omega) n s y hs hy
        rw [hL] at q1 q2
        by_cases hyb : y < b
        · rw [if_pos hyb, if_neg (by omega : ¬ y ≥ b), q1 hyb, show (y != y) = false from by rw [bne_eq_false_iff_eq], sel_ff]
        · rw [if_neg hyb, if_pos (by omega : y ≥ b), if_neg (q2 (by omega))]
    rw [hres, ob1_some, osum_inl]
    exact ih
theorem exact_true (t : GTask) (ht : ShT t) (b : Int) : M_l32_CertifyExact 1000000000000000000 t b = some true := by
  rw [M_l32_CertifyExact, awakeE, fit_eq t ht, ob1_some]
  cases hfit : fitF t with
  | false => rfl
  | true =>
    have hf := fit_of hfit
    rw [Bool.not_true, sel_ff, ob1_some, Bool.not_true, sel_ff, ob1_some, osum_inl]
    have hal := allF_len t hf.small
    obtain ⟨d, d1, d2⟩ := fix_eq hf.small 1000000000000000000 (Nat.le_refl _) []
    have fin : ∀ c : GCertificate, c.Nogoods.length ≤ 4096 → (∀ n ∈ c.Nogoods, propF t.Vars (-1) n.1 = true) →
        (b < 0 → ∀ (i : Nat) (s : List Int) (y : Int), (allF t)[i]? = some s → d[i]? = some y → (leastF s c.Nogoods 1125899906842624 < 1125899906842624 ↔ y < 1125899906842624)) →
        (0 ≤ b → ∀ (i : Nat) (s : List Int) (y : Int), (allF t)[i]? = some s → d[i]? = some y → (y < b → leastF s c.Nogoods 1125899906842624 = y) ∧ (y ≥ b → ¬ leastF s c.Nogoods 1125899906842624 < 1125899906842624)) →
        ob1 (M_b_Distances 1000000000000000000 t []) (fun z14 => ob1 (M_b_States t.Vars) (fun z15 => M_l32_CertifyExact_L2 b c z14 z15 ((((z15.map cL_cI).length : Int)).toNat + 1) 0)) = some true := fun c hl hp hneg hpos => by
      rw [d1, ob1_some, states_eq t hf.small, ob1_some, M_l32_CertifyExact_L2_eq b c d (allF t) (by omega)]
      exact exact_loop hf hp hl d2.g.len hneg hpos (allF t) 0 (List.drop_zero ..)
    by_cases hrange : -1 ≤ b ∧ b ≤ 1099511627776
    · by_cases hz : b = 0
      · subst hz
        have : M_certify_Lower 1000000000000000000 t 0 4096 = some ({ Bound := 0, Nogoods := [] }, .nil) := by
          rw [M_certify_Lower, check_eq t ht, (good_check t).1 hf.good, ob1_some]
          rfl
        rw [this, ob2_some]
        exact fin { Bound := 0, Nogoods := [] } (Nat.zero_le _) (fun n hn => by cases hn) (fun h => by omega) (fun _ i s y hi hy => ⟨fun h => by have := (d2.g.ok i s y hi hy).1; omega, fun _ => by show ¬ (1125899906842624 : Int) < 1125899906842624; omega⟩)
      · obtain ⟨r, h1, h2⟩ := lower_eq (g := 1000000000000000000) (by decide) ht hf hrange.1 hrange.2 hz 4096
        rw [h1]
        rcases h2 with ⟨e1, e2, e3, e4⟩ | ⟨rfl, _⟩ | rfl
        · obtain ⟨c, e⟩ := r
          simp only at e1 e2 e3 e4
          subst e1
          obtain ⟨dq, q1, q2⟩ := dis_eq hf.small (low_dq hf e3) 1000000000000000000 (Nat.le_refl _) []
          rw [d1] at q1
          obtain rfl := Option.some.inj q1
          have hfin : ∀ (i : Nat) (y : Int), d[i]? = some y → y ≠ 1125899906842624 → y ≤ 1048576 * 512 := fun i y hy hne => by
            have h1 := d2.g.bnd y (List.mem_of_getElem? hy) hne
            have h2 := finN_le d
            have h3 := d2.g.len
            omega
          rw [ob2_some]
          refine fin c (by omega) (fun n hn => (e3.nP n hn).prop) (fun hb i s y hi hy => ?_) (fun hb i s y hi hy => ?_)
          · have hsF := (allF_mem t s).1 (List.mem_of_getElem? hi)
            constructor
            · intro hlt
              rcases leastF_or s c.Nogoods 1125899906842624 with h | ⟨n, hn, hh, _⟩
              · omega
              · exact fix_rch0 hf.small d2 ((e3.nP n hn).snd s hsF hh) i y hi hy
            · intro hlt
              obtain ⟨n, hn, hle, hh⟩ := (q2.ok i s y hi hy).2.2 (by show y ≠ 1125899906842624; omega) (.inl hb)
              have := (leastF_le s c.Nogoods 1125899906842624).2 n hn hh
              rw [if_pos hb] at hle
              omega
          · have hsF := (allF_mem t s).1 (List.mem_of_getElem? hi)
            have hsound : ∀ n ∈ c.Nogoods, holdsF s n.1 = true → y ≤ n.2 := fun n hn hh => by
              have hE := e3.nP n hn
              have := hE.d1 hb
              exact (fix_rch hf.small d2 hb (hE.snd s hsF hh) i y hi hy (by omega)).2
            constructor
            · intro hlt
              obtain ⟨n, hn, hle, hh⟩ := (q2.ok i s y hi hy).2.2 (by show y ≠ 1125899906842624; omega) (.inr hlt)
              rw [if_neg (by omega)] at hle
              have h1 := (leastF_le s c.Nogoods 1125899906842624).2 n hn hh
              rcases leastF_or s c.Nogoods 1125899906842624 with h | ⟨m, hm, hh2, he⟩
              · have := hfin i y hy (by omega); omega
              · have := hsound m hm hh2; omega
            · intro hge hlt
              rcases leastF_or s c.Nogoods 1125899906842624 with h | ⟨m, hm, hh2, he⟩
              · omega
              · have h1 := hsound m hm hh2
                have h2 := (e3.nP m hm).d1 hb
                omega
        · rfl
        · rfl
    · have hbd : M_certify_bounded b = some false := by
        rw [M_certify_bounded, sel_dec]
        by_cases h : b ≥ -1
        · rw [if_pos h, decide_eq_false (by omega)]
        · rw [if_neg h]
      rw [M_certify_Lower, check_eq t ht, (good_check t).1 hf.good, ob1_some]
      show ob2 (ob1 (M_certify_bounded b) _) _ = _
      rw [hbd]
      rfl
end Go.Proofs.YtohjegemooakpaaGreat.Am
/- Opening arguments: slices of numbers, of facts, of nogoods, a certificate. -/
namespace Go.Proofs.YtohjegemooakpaaGreat
open Go.RowKit Go.ChangeShapes Go.WideShapes Go.Deep Go.Joins

def I64 (x : Int) : Prop := -9223372036854775808 ≤ x ∧ x ≤ 9223372036854775807
theorem I64.of {x : Int} (h : (Lit.int .i64 x).wf = true) : I64 x := by
  have := bounds_i64 h
  exact this

section
variable {H : Type} {enc : TypeId × Value → H} {P : Program} {w : World} {base : Nat} {spare : Nat → Bool} {held : Bool}

/-- within the form's reach -/
def Sized (P : Program) (t : TypeId) (d : DataW H) : Prop := ∀ n ∈ d.weights P t, n ≤ reachBytes
theorem sized_arg {ts : List TypeId} {ds : List (DataW H)} (h : (DataW.weightsEach P ts ds).all (· ≤ reachBytes) = true) {j : Nat} {t : TypeId} {d : DataW H} (ht : ts[j]? = some t) (hd : ds[j]? = some d) : Sized P t d :=
  fun n hn => of_decide_eq_true (List.all_eq_true.1 h n (DataW.weights_mem_each ht hd n hn))
theorem sized_field {t : TypeId} {fs : Array Field} {parts : List (DataW H)} (h : Sized P t (.agg parts)) (hu : P.underlying t = some (.struct fs)) {j : Nat} {f : Field} {d : DataW H} (hf : fs[j]? = some f) (hd : parts[j]? = some d) : Sized P f.type d :=
  fun n hn => h n (by
    simp only [DataW.weights, hu]
    exact DataW.weights_mem_each (j := j) (by simp [List.getElem?_map, hf]) hd n hn)
theorem weightsAll_mem {e : TypeId} : ∀ {l : List (DataW H)} {d : DataW H}, d ∈ l → ∀ n ∈ d.weights P e, n ∈ DataW.weightsAll P e l
  | x :: l, d, hd, n, hn => by
    simp only [DataW.weightsAll, List.mem_append]
    rcases List.mem_cons.1 hd with rfl | h
    · exact Or.inl hn
    · exact Or.inr (weightsAll_mem h n hn)
theorem sized_elem {t e : TypeId} {elems sp : List (DataW H)} (h : Sized P t (.slice elems sp)) (hu : P.underlying t = some (.slice e)) {d : DataW H} (hd : d ∈ elems) : Sized P e d :=
  fun n hn => h n (by
    simp only [DataW.weights, hu, List.mem_cons, List.mem_append]
    exact Or.inr (Or.inl (weightsAll_mem hd n hn)))
theorem sized_len {t e : TypeId} {elems sp : List (DataW H)} (h : Sized P t (.slice elems sp)) (hu : P.underlying t = some (.slice e)) : elems.length * P.bytesOf e ≤ 140737488355328 := by
  have h1 := h ((elems.length + sp.length) * P.bytesOf e) (by simp [DataW.weights, hu])
  have h2 : elems.length * P.bytesOf e ≤ (elems.length + sp.length) * P.bytesOf e := Nat.mul_le_mul_right _ (by omega)
  have h3 : reachBytes ≤ 140737488355328 := by decide
  omega

end

theorem spot_of_cell {w : World} {p : Addr} {v : Value} (h : w.cell? p = some v) : p.spot = none := by
  unfold World.cell? at h
  split at h
  · split at h
    · cases h
    · rename_i hs; simpa using hs
  · cases h
theorem addr_of_cell {w : World} {a : Addr} {k : Nat} {v : Value} (h0 : ∃ u, w.cell? (a.add 0) = some u) (h : w.cell? (a.add k) = some v) : a = ⟨a.block, a.off, none⟩ ∧ w.cell? ⟨a.block, a.off + k, none⟩ = some v := by
  obtain ⟨u, hu⟩ := h0
  have hs := spot_of_cell hu
  obtain ⟨b, off, sp⟩ := a
  simp [Addr.add] at hs
  subst hs
  refine ⟨rfl, ?_⟩
  rw [← h]
  congr 1
  unfold Addr.add
  split
  · subst k; rfl
  · rfl

theorem list_of {α : Type} (n : Nat) (R : Nat → α → Prop) (h : ∀ i, i < n → ∃ x, R i x) : ∃ l : List α, l.length = n ∧ ∀ k x, l[k]? = some x → R k x := by
  induction n with
  | zero => exact ⟨[], rfl, fun k x hx => by simp at hx⟩
  | succ n ih =>
    obtain ⟨l, hl, hr⟩ := ih (fun i hi => h i (by omega))
    obtain ⟨x, hx⟩ := h n (by omega)
    refine ⟨l ++ [x], by simp [hl], fun k y hy => ?_⟩
    by_cases hk : k < n
    · rw [List.getElem?_append_left (by omega)] at hy
      exact hr k y hy
    · rw [List.getElem?_append_right (by omega)] at hy
      have hk' : k - l.length = 0 := by
        have := (List.getElem?_eq_some_iff.1 hy).1
        simp at this
        omega
      rw [hk'] at hy
      simp at hy
      subst hy
      obtain rfl : k = n := by omega
      exact hx

variable {H : Type} {enc : TypeId × Value → H} {w : World} {base : Nat} {spare : Nat → Bool} {held : Bool}
end Go.Proofs.YtohjegemooakpaaGreat
/- Opening arguments for the abstract machine: readers that compose. -/
namespace Go.Proofs.YtohjegemooakpaaGreat.Am
open Go.RowKit Go.ChangeShapes Go.WideShapes Go.Deep Go.Joins

/-- nothing is owned at the start -/
abbrev mZ : MM := mO (fun _ => False)
theorem noZ (b : Nat) : ¬ Owned nov mZ b := fun h => owned_nov.1 h

section
variable {H : Type} {enc : TypeId × Value → H} {P : Program} {w : World} {base : Nat} {spare : Nat → Bool} {held : Bool}
/-- cells that stand for the values -/
def CellsRv (w : World) (es : List AV) (cs : List Value) : Prop := es.length = cs.length ∧ (∀ (j : Nat) (y : AV) (u : Value), es[j]? = some y → cs[j]? = some u → RV w nov mZ y u ∧ u.oneCell' = true) ∧ ∀ y ∈ es, Fr y
/-- data of type t read as an α -/
def Opens (enc : TypeId × Value → H) (P : Program) (w : World) (base : Nat) (spare : Nat → Bool) (held : Bool) (t : TypeId) {α : Type} (en : α → List AV) (R : α → Prop) : Prop :=
  ∀ (fuel : Nat) (cs : List Value) (x : DataW H × List MemPlace), DataW.trod enc P w base spare held fuel t cs = some x → Sized P t x.1 → ∃ a, R a ∧ CellsRv w (en a) cs

theorem cells_one1 {y : AV} {u : Value} (h : RV w nov mZ y u) (h1 : u.oneCell' = true) (hf : Fr y) : CellsRv w [y] [u] := by
  refine ⟨rfl, fun j z v hz hv => ?_, fun z hz => by simp at hz; subst hz; exact hf⟩
  cases j with
  | zero => simp at hz hv; subst hz hv; exact ⟨h, h1⟩
  | succ j => simp at hz
theorem opens_int {t : TypeId} {k : IntKind} (ht : P.underlying t = some (.int k)) : Opens enc P w base spare held t (fun z : Int => [.c (.int k z)]) (fun z => (Lit.int k z).wf = true) := by
  intro fuel cs x h _
  obtain ⟨z, rfl, _, wz⟩ := DataW.trod_int ht h
  exact ⟨z, wz, cells_one1 (.c _) rfl (.c _)⟩
theorem opens_slice {t e : TypeId} {α : Type} {en : α → List AV} {R : α → Prop} {sz by_ : Nat} (ht : P.underlying t = some (.slice e)) (hc : P.cellsOf e = sz) (hb : P.bytesOf e = by_) (hby : 0 < by_) (hsz : 0 < sz) (he : Opens enc P w base spare held e en R) :
    Opens enc P w base spare held t (fun l : List α => [.sl sz (l.map en)]) (fun l => l.length * by_ ≤ 140737488355328 ∧ ∀ x ∈ l, R x) := by
  intro fuel cs x h hs
  rcases open_slice ht h with ⟨rfl, _⟩ | ⟨a, len, cap, m, n, D, Pl, rfl, _, hl, hm, hmm, rfl, hi⟩
  · refine ⟨[], ⟨by simp, by simp⟩, cells_one1 ?_ rfl (.sl (fun e he => by cases he))⟩
    exact RV.sl (l := []) (b := 0) (off := 0) (f := fun _ _ => undef) (fun h => absurd rfl h) (Nat.zero_le _) (by simp) (fun k e h => by simp at h) (fun k j e x h => by simp at h) (fun k j e x h => by simp at h) (fun e he => by cases he)
  · have hlen := sized_len hs ht
    rw [hb] at hlen
    simp only [List.length_map, List.length_range] at hlen
    have hml : len ≤ m := by rw [hmm]; split <;> omega
    have hcell : ∀ i, i < len → ∃ z : α, R z ∧ ∃ cs', CellsRv w (en z) cs' ∧ cs'.length = sz ∧ ∀ j, j < sz → w.cell? (a.add (i * sz + j)) = cs'[j]? := by
      intro i hi'
      obtain ⟨cs', hcc, ht'⟩ := hi i (by omega)
      rw [hc] at hcc
      obtain ⟨z, hz, hcr⟩ := he n cs' _ ht' (sized_elem hs ht (List.mem_map.2 ⟨i, by simpa using hi', rfl⟩))
      obtain ⟨_, hcl', hat⟩ := World.cells?_some hcc
      exact ⟨z, hz, cs', hcr, hcl', fun j hj => by rw [← hat j hj, Go.Deep.add_add]⟩
    obtain ⟨l, hl', hat⟩ := list_of len _ hcell
    have hR : ∀ x ∈ l, R x := fun x hx => by
      obtain ⟨k, hk⟩ := List.getElem?_of_mem hx
      exact (hat k x hk).1
    have hfr : FrL (l.map en) := by
      intro e he
      obtain ⟨x, hx, rfl⟩ := List.mem_map.1 he
      obtain ⟨k, hk⟩ := List.getElem?_of_mem hx
      obtain ⟨_, cs', hcr, _⟩ := hat k x hk
      exact hcr.2.2
    refine ⟨l, ⟨by rw [hl']; exact hlen, hR⟩, cells_one1 ?_ rfl (.sl hfr)⟩
    have key : ∀ (k j : Nat) (e : List AV) (y : AV), (l.map en)[k]? = some e → e[j]? = some y → e.length = sz ∧ ∃ u, w.cell? ⟨a.block, a.off + (k * sz + j), none⟩ = some u ∧ u.oneCell' = true ∧ RV w nov mZ y u ∧ a = ⟨a.block, a.off, none⟩ ∧ a.block < w.heap.size := by
      intro k j e y hk hj
      rw [List.getElem?_map] at hk
      cases hx : l[k]? with
      | none => rw [hx] at hk; cases hk
      | some z =>
        rw [hx] at hk
        simp at hk
        subst hk
        obtain ⟨_, cs', ⟨c1, c2, _⟩, c4, c5⟩ := hat k z hx
        have hjl : j < sz := by rw [← c4, ← c1]; exact (List.getElem?_eq_some_iff.1 hj).1
        have hcj := c5 j hjl
        have hget : cs'[j]? = some (cs'[j]'(by omega)) := List.getElem?_eq_getElem _
        rw [hget] at hcj
        obtain ⟨r1, r2⟩ := c2 j y _ hj hget
        have h0 : 0 < len := by have := (List.getElem?_eq_some_iff.1 hx).1; omega
        obtain ⟨_, _, cs0, ⟨_, _, _⟩, d4, d5⟩ := hcell 0 h0
        have hz0 := d5 0 hsz
        rw [List.getElem?_eq_getElem (by omega)] at hz0
        obtain ⟨e1, e2⟩ := addr_of_cell ⟨_, by simpa using hz0⟩ hcj
        exact ⟨by rw [c1, c4], _, e2, r2, r1, e1, lt_of_cell (p := ⟨a.block, a.off + (k * sz + j), none⟩) e2⟩
    have hlen2 : (l.map en).length = len := by simp [hl']
    have := RV.sl (w := w) (vs := nov) (m := mZ) (sz := sz) (l := l.map en) (A := some a) (cap := cap) (b := a.block) (off := a.off) (f := fun k j => (w.cell? ⟨a.block, a.off + (k * sz + j), none⟩).getD undef)
      (fun hne => ?_) (by omega) (by rw [hlen2]; exact Nat.le_trans (Nat.le_mul_of_pos_right _ hby) hlen) (fun k e hk => ?_) (fun k j e y hk hj => ?_) (fun k j e y hk hj => ?_) hfr
    · rw [hlen2] at this
      exact this
    · have h0 : 0 < (l.map en).length := List.length_pos_iff.2 hne
      have hk := List.getElem?_eq_getElem h0
      obtain ⟨x0, hx0, hx0'⟩ : ∃ x0, l[0]? = some x0 ∧ (l.map en)[0] = en x0 := by
        have h1 : 0 < l.length := by simpa using h0
        exact ⟨l[0], List.getElem?_eq_getElem h1, by simp⟩
      obtain ⟨_, cs', ⟨c1, _, _⟩, c4, _⟩ := hat 0 x0 hx0
      have hel : 0 < ((l.map en)[0]).length := by rw [hx0', c1, c4]; exact hsz
      obtain ⟨_, _, _, _, _, q1, q2⟩ := key 0 0 _ _ hk (List.getElem?_eq_getElem hel)
      exact ⟨by rw [← q1], noZ _, q2⟩
    · rw [List.getElem?_map] at hk
      cases hx : l[k]? with
      | none => rw [hx] at hk; cases hk
      | some z =>
        rw [hx] at hk
        simp at hk
        subst hk
        obtain ⟨_, cs', ⟨c1, _, _⟩, c4, _⟩ := hat k z hx
        rw [c1, c4]
    · obtain ⟨_, u, q1, q2, _⟩ := key k j e y hk hj
      rw [q1]
      exact ⟨rfl, q2⟩
    · obtain ⟨_, u, q1, _, q3, _⟩ := key k j e y hk hj
      rw [q1]
      exact q3

/-- fields from one on -/
def OpensF (enc : TypeId × Value → H) (P : Program) (w : World) (base : Nat) (spare : Nat → Bool) (held : Bool) (fs : List Field) (off tot : Nat) {α : Type} (en : α → List AV) (R : α → Prop) : Prop :=
  ∀ (fuel : Nat) (cs : List Value) (xs : List (DataW H × List MemPlace)), cs.length = tot → xs.length = fs.length → (∀ (i : Nat) (f : Field), fs[i]? = some f → DataW.trod enc P w base spare held fuel f.type ((cs.drop f.offset).take (P.cellsOf f.type)) = xs[i]?) →
    (∀ (i : Nat) (f : Field) (x : DataW H × List MemPlace), fs[i]? = some f → xs[i]? = some x → Sized P f.type x.1) → ∃ a, R a ∧ CellsRv w (en a) (cs.drop off)
theorem cells_append {a b : List AV} {xs ys : List Value} (h1 : CellsRv w a xs) (h2 : CellsRv w b ys) : CellsRv w (a ++ b) (xs ++ ys) := by
  refine ⟨by rw [List.length_append, List.length_append, h1.1, h2.1], fun j y u hy hu => ?_, fun y hy => ?_⟩
  · rcases Nat.lt_or_ge j a.length with hlt | hge
    · rw [List.getElem?_append_left hlt] at hy
      rw [List.getElem?_append_left (by rw [← h1.1]; exact hlt)] at hu
      exact h1.2.1 j y u hy hu
    · rw [List.getElem?_append_right hge] at hy
      rw [List.getElem?_append_right (by rw [← h1.1]; exact hge)] at hu
      rw [h1.1] at hy
      exact h2.2.1 _ y u hy hu
  · rcases List.mem_append.1 hy with h | h
    · exact h1.2.2 y h
    · exact h2.2.2 y h
theorem opensF_last {f : Field} {off tot : Nat} {α : Type} {en : α → List AV} {R : α → Prop} (ho : f.offset = off) (htot : off + P.cellsOf f.type = tot) (h : Opens enc P w base spare held f.type en R) : OpensF enc P w base spare held [f] off tot en R := by
  intro fuel cs xs hcl hx ht hs
  obtain ⟨x, rfl⟩ := List.length_eq_one_iff.1 hx
  have h1 := ht 0 f rfl
  obtain ⟨a, ha, hc⟩ := h fuel _ x h1 (hs 0 f x rfl rfl)
  refine ⟨a, ha, ?_⟩
  rw [ho, List.take_of_length_le (by simp; omega)] at hc
  exact hc
theorem opensF_cons {f : Field} {fs : List Field} {off off' tot : Nat} {α β : Type} {en : α → List AV} {R : α → Prop} {en' : β → List AV} {R' : β → Prop} (ho : f.offset = off) (hoff : off + P.cellsOf f.type = off') (h : Opens enc P w base spare held f.type en R) (h' : OpensF enc P w base spare held fs off' tot en' R') :
    OpensF enc P w base spare held (f :: fs) off tot (fun p : α × β => en p.1 ++ en' p.2) (fun p => R p.1 ∧ R' p.2) := by
  intro fuel cs xs hcl hx ht hs
  cases xs with
  | nil => simp at hx
  | cons x xs =>
    obtain ⟨a, ha, hc⟩ := h fuel _ x (ht 0 f rfl) (hs 0 f x rfl rfl)
    obtain ⟨b, hb, hc'⟩ := h' fuel cs xs hcl (by simpa using hx) (fun i g hg => by simpa using ht (i + 1) g (by simpa using hg)) (fun i g y hg hy => hs (i + 1) g y (by simpa using hg) (by simpa using hy))
    refine ⟨(a, b), ⟨ha, hb⟩, ?_⟩
    rw [ho] at hc
    have : cs.drop off = (cs.drop off).take (P.cellsOf f.type) ++ cs.drop off' := by
      rw [← hoff, ← List.drop_drop, List.take_append_drop]
    rw [this]
    exact cells_append hc hc'
theorem opens_struct {t : TypeId} {fs : Array Field} {α : Type} {en : α → List AV} {R : α → Prop} (ht : P.underlying t = some (.struct fs)) (h : OpensF enc P w base spare held fs.toList 0 (P.cellsOf t) en R) : Opens enc P w base spare held t en R := by
  intro fuel cs x hx hs
  obtain ⟨xs, n, _, rfl, hcl, hxl, hf⟩ := DataW.trod_struct ht hx
  obtain ⟨a, ha, hc⟩ := h n cs xs hcl (by simpa using hxl) (fun i f hi => hf i f (by simpa using hi)) (fun i f y hi hy => sized_field hs ht (j := i) (by simpa using hi) (by simp [List.getElem?_map, hy]))
  exact ⟨a, ha, by simpa using hc⟩

/-- a struct that came in -/
theorem agg_rv {es : List AV} {us : Array Value} (h : CellsRv w es us.toList) : RV w nov mZ (.agg es) (.agg us) :=
  .agg (by rw [h.1]; simp) (fun j y u hy hu => (h.2.1 j y u hy (by simpa using hu)).1)
end
end Go.Proofs.YtohjegemooakpaaGreat.Am
/- From a walk to a law's row: the arguments read behind the call as before, the result is true. -/
namespace Go.Proofs.YtohjegemooakpaaGreat
open Go.RowKit Go.WideShapes Go.ChangeShapes Go.ChangeAt
section
variable {H : Type} {enc : TypeId × Value → H} {P : Program}
theorem post_of_below {f : Func} {s : ChangeSpec} {apart fresh handsOn again : Bool} {W W' : World} {args : Array Value} {v : Value} {ds gs : List (DataW H)} {before pa pv : List MemPlace}
    (hW : DataW.Whole enc P f.params.toList s.vars apart W args.toList ds gs before)
    (hres : ∀ (b : Nat) (sp : Nat → Bool) (hd : Bool), DataW.TrodAll enc P W' b sp hd f.resultTypes.toList (v.resultList f.resultTypes.size) (s.fn H (ds ++ gs)).results [])
    (hargs : ∀ sp : Nat → Bool, (∀ p ∈ before, sp p.block = true) → DataW.TrodAll enc P W' 0 sp true f.params.toList args.toList (s.fn H (ds ++ gs)).args pa)
    (hvars : ∀ sp : Nat → Bool, (∀ p ∈ before, sp p.block = true) → DataW.TrodVars enc P W' sp s.vars (s.fn H (ds ++ gs)).vars pv)
    (hps : before = pa ++ pv) (hb : Below W.heap.size W W')
    (hok : ∀ (j : Nat) (t : TypeId) (r : Value), f.resultTypes[j]? = some t → (v.resultList f.resultTypes.size)[j]? = some r → Value.okWide P W' .any 0 t r) :
    s.post enc P f apart fresh handsOn again W args v W' := by
  have hlt : ∀ p ∈ before, p.block < W.heap.size := fun p hp => hW.lt p hp
  have hold : ∀ p ∈ before, (fun b => decide (b < W.heap.size)) p.block = true := fun p hp => by simpa using hlt p hp
  refine ⟨ds, gs, before, [], pa, pv, hW, hres _ _ _, hargs _ hold, hvars _ hold, World.keptBut_mono (fun p hp => ⟨hp, ?_⟩) (hb.frame (· ∈ before)), fun _ => ?_⟩
  · rw [hps, List.mem_append] at hp
    exact Or.inr hp
  · obtain ⟨_, _, _, _, _, hz, hn⟩ := hW
    refine ⟨hok, _, _, ([] ++ pa) ++ pv, ⟨[] ++ pa, pv, trodAll_append (hargs _ (fun _ _ => rfl)) (hres _ _ _), hvars _ (fun _ _ => rfl), rfl, ?_, ?_⟩, ?_⟩
    · intro b off hp
      have hin : MemPlace.cell b off ∈ before := by rw [hps]; simpa using hp
      rw [hb.frozen (hlt _ hin)]
      exact hz b off hin
    · intro ha
      have := hn ha
      rw [hps] at this
      simpa using this
    · intro p hp _
      rw [hps]
      simpa using hp

theorem trodAll_keep (hl : laidOutB P = true) {W W' : World} (hb : Below W.heap.size W W') (sp : Nat → Bool) (ts : List TypeId) : ∀ (vs : List Value) (ds : List (DataW H)) (ps : List MemPlace), (∀ t ∈ ts, P.readableRec t = true ∧ t < P.types.size) →
    DataW.TrodAll enc P W 0 (fun _ => true) true ts vs ds ps → (∀ x ∈ ps, x.block < W.heap.size) → (∀ x ∈ ps, sp x.block = true) → DataW.TrodAll enc P W' 0 sp true ts vs ds ps := by
  induction ts with
  | nil =>
    intro vs ds ps _ h _ _
    obtain ⟨rfl, rfl, rfl⟩ := trodAll_nil h
    exact trodAll_mk0
  | cons t ts ih =>
    intro vs ds ps hts h hlt hsp
    obtain ⟨v0, vs0, d0, ds0, p0, q0, rfl, rfl, rfl, h0, r0⟩ := trodAll_cons h
    obtain ⟨hr, hrow⟩ := hts t (by simp)
    exact trodAll_cons_mk (WideElems.Trod_stays hl hr hrow h0 (fun x hx => hb.same (hlt x (by simp [hx]))) (fun x hx => hsp x (by simp [hx])))
      (ih _ _ _ (fun t ht => hts t (by simp [ht])) r0 (fun x hx => hlt x (by simp [hx])) (fun x hx => hsp x (by simp [hx])))

/-- A LAW: it returned true, nothing that was there has turned. -/
theorem law_post (hl : laidOutB P = true) {f : Func} {s : ChangeSpec} {T : TypeId} {W W' : World} {args : Array Value} {ds : List (DataW H)} {before : List MemPlace}
    (hvars : s.vars = []) (hrt : f.resultTypes = #[T]) (hT : P.underlying T = some .bool) (hts : f.params.toList.all (fun t => P.readableRec t && decide (t < P.types.size)) = true)
    (hW : DataW.Whole enc P f.params.toList s.vars false W args.toList ds [] before) (hA : DataW.TrodAll enc P W 0 (fun _ => true) true f.params.toList args.toList ds before)
    (e1 : (s.fn H (ds ++ [])).results = [.lit (.bool true)]) (e2 : (s.fn H (ds ++ [])).args = ds) (e3 : (s.fn H (ds ++ [])).vars = []) (hb : Below W.heap.size W W') :
    s.post enc P f false true false false W args (.bool true) W' := by
  have hlt : ∀ x ∈ before, x.block < W.heap.size := fun x hx => hW.lt x hx
  refine post_of_below (pa := before) (pv := []) hW ?_ ?_ ?_ (by simp) hb ?_
  · intro b sp hd
    rw [e1, hrt]
    exact trodAll_cons_mk (shut_bool hT true) trodAll_mk0
  · intro sp hsp
    rw [e2]
    exact trodAll_keep hl hb sp _ _ _ _ (fun t ht => by simpa using List.all_eq_true.1 hts t ht) hA hlt hsp
  · intro sp hsp
    rw [e3, hvars]
    rfl
  · exact ok_one hrt rfl (okWide_bool_mk hT true)
end
end Go.Proofs.YtohjegemooakpaaGreat
/- Readers of the arguments of the laws about tasks. -/
namespace Go.Proofs.YtohjegemooakpaaGreat.Am
open Go.RowKit Go.ChangeShapes Go.WideShapes Go.Deep Go.Joins
section
variable {H : Type} {enc : TypeId × Value → H} {w : World} {base : Nat} {spare : Nat → Bool} {held : Bool}
theorem opens_conv {P : Program} {t : TypeId} {α β : Type} {en : α → List AV} {en2 : β → List AV} {R : α → Prop} {R2 : β → Prop} (f : α → β) (h : Opens enc P w base spare held t en R) (he : ∀ a, en2 (f a) = en a) (hR : ∀ a, R a → R2 (f a)) : Opens enc P w base spare held t en2 R2 := by
  intro fuel cs x hx hs
  obtain ⟨a, ha, hc⟩ := h fuel cs x hx hs
  exact ⟨f a, hR a ha, by rw [he]; exact hc⟩
theorem opens_str2 {P : Program} {t : TypeId} (ht : P.underlying t = some .string) : Opens enc P w base spare held t (fun s : ByteArray => [.c (.string s)]) (fun s => s.size ≤ 140737488355328) := by
  intro fuel cs x h hsz
  obtain ⟨s, rfl, rfl, -⟩ := DataW.trod_string ht h
  refine ⟨s, ?_, cells_one1 (.c _) rfl (.c _)⟩
  have h1 : s.data.toList.length ≤ 140737488355328 := Nat.le_trans (hsz s.data.toList.length (List.mem_singleton.2 rfl)) (by decide)
  rw [Array.length_toList] at h1
  exact h1
abbrev I64F (p : Fact) : Prop := (Lit.int .i64 p.1).wf = true ∧ (Lit.int .i64 p.2).wf = true
abbrev FactsR (l : List Fact) : Prop := l.length * 16 ≤ 140737488355328 ∧ ∀ p ∈ l, I64F p
abbrev EffR (e : GEffect) : Prop := FactsR e.When
abbrev OpR (o : GOp) : Prop := o.Name.size ≤ 140737488355328 ∧ FactsR o.Pre ∧ o.Effs.length * 40 ≤ 140737488355328 ∧ ∀ e ∈ o.Effs, EffR e
abbrev IntsR (l : List Int) : Prop := l.length * 8 ≤ 140737488355328 ∧ ∀ z ∈ l, (Lit.int .i64 z).wf = true
abbrev TaskR (t : GTask) : Prop := IntsR t.Vars ∧ IntsR t.Init ∧ FactsR t.Goal ∧ t.Ops.length * 72 ≤ 140737488355328 ∧ ∀ o ∈ t.Ops, OpR o
set_option maxRecDepth 100000 in
theorem oFact : Opens enc Tryz.prog w base spare held 68 cF I64F :=
  opens_struct Tryz.underlying68 (opensF_cons (off' := 1) rfl (by kernel_rfl) (opens_int Tryz.underlying3) (opensF_last rfl (by kernel_rfl) (opens_int Tryz.underlying3)))
set_option maxRecDepth 100000 in
theorem oFacts : Opens enc Tryz.prog w base spare held 23 (fun l : List Fact => [.sl 2 (l.map cF)]) FactsR :=
  opens_slice Tryz.underlying23 (by kernel_rfl) (by kernel_rfl) (by decide) (by decide) oFact
set_option maxRecDepth 100000 in
theorem oInts : Opens enc Tryz.prog w base spare held 22 (fun l : List Int => [.sl 1 (l.map cI)]) IntsR :=
  opens_slice Tryz.underlying22 (by kernel_rfl) (by kernel_rfl) (by decide) (by decide) (opens_int Tryz.underlying3)
set_option maxRecDepth 100000 in
theorem oEff : Opens enc Tryz.prog w base spare held 70 cGEffect EffR :=
  opens_conv (fun p : List Fact × (Int × Int) => { When := p.1, Var := p.2.1, Val := p.2.2 : GEffect })
    (opens_struct Tryz.underlying70 (opensF_cons (off' := 1) (en := fun l : List Fact => [AV.sl 2 (l.map cF)]) (R := FactsR) (en' := fun z : Int × Int => [AV.c (.int .i64 z.1)] ++ [AV.c (.int .i64 z.2)]) (R' := fun z : Int × Int => (Lit.int .i64 z.1).wf = true ∧ (Lit.int .i64 z.2).wf = true) rfl (by kernel_rfl) oFacts
      (opensF_cons (off' := 2) (en := fun z : Int => [AV.c (.int .i64 z)]) (R := fun z : Int => (Lit.int .i64 z).wf = true) (en' := fun z : Int => [AV.c (.int .i64 z)]) (R' := fun z : Int => (Lit.int .i64 z).wf = true) rfl (by kernel_rfl) (opens_int Tryz.underlying3) (opensF_last rfl (by kernel_rfl) (opens_int Tryz.underlying3)))))
    (fun _ => rfl) (fun _ h => h.1)
set_option maxRecDepth 100000 in
theorem oOp : Opens enc Tryz.prog w base spare held 73 cGOp OpR :=
  opens_conv (fun p : ByteArray × (Int × (List Fact × List GEffect)) => { Name := p.1, Cost := p.2.1, Pre := p.2.2.1, Effs := p.2.2.2 : GOp })
    (opens_struct Tryz.underlying73 (opensF_cons (off' := 1) (en := fun s : ByteArray => [AV.c (.string s)]) (R := fun s => s.size ≤ 140737488355328) (en' := fun p : Int × (List Fact × List GEffect) => [AV.c (.int .i64 p.1)] ++ ([AV.sl 2 (p.2.1.map cF)] ++ [AV.sl 3 (p.2.2.map cGEffect)])) (R' := fun p : Int × (List Fact × List GEffect) => (Lit.int .i64 p.1).wf = true ∧ (FactsR p.2.1 ∧ (p.2.2.length * 40 ≤ 140737488355328 ∧ ∀ e ∈ p.2.2, EffR e))) rfl (by kernel_rfl) (opens_str2 Tryz.underlying9)
      (opensF_cons (off' := 2) (en := fun z : Int => [AV.c (.int .i64 z)]) (R := fun z : Int => (Lit.int .i64 z).wf = true) (en' := fun p : List Fact × List GEffect => [AV.sl 2 (p.1.map cF)] ++ [AV.sl 3 (p.2.map cGEffect)]) (R' := fun p : List Fact × List GEffect => FactsR p.1 ∧ (p.2.length * 40 ≤ 140737488355328 ∧ ∀ e ∈ p.2, EffR e)) rfl (by kernel_rfl) (opens_int Tryz.underlying3)
        (opensF_cons (off' := 3) (en := fun l : List Fact => [AV.sl 2 (l.map cF)]) (R := FactsR) (en' := fun l : List GEffect => [AV.sl 3 (l.map cGEffect)]) (R' := fun l : List GEffect => l.length * 40 ≤ 140737488355328 ∧ ∀ e ∈ l, EffR e) rfl (by kernel_rfl) oFacts
          (opensF_last rfl (by kernel_rfl) (opens_slice Tryz.underlying71 (by kernel_rfl) (by kernel_rfl) (by decide) (by decide) oEff))))))
    (fun _ => rfl) (fun _ h => ⟨h.1, h.2.2.1, h.2.2.2⟩)
set_option maxRecDepth 100000 in
theorem oTask : Opens enc Tryz.prog w base spare held 26 cGTask TaskR :=
  opens_conv (fun p : List Int × (List Int × (List Fact × List GOp)) => { Vars := p.1, Init := p.2.1, Goal := p.2.2.1, Ops := p.2.2.2 : GTask })
    (opens_struct Tryz.underlying26 (opensF_cons (off' := 1) (en := fun l : List Int => [AV.sl 1 (l.map cI)]) (R := IntsR) (en' := fun p : List Int × (List Fact × List GOp) => [AV.sl 1 (p.1.map cI)] ++ ([AV.sl 2 (p.2.1.map cF)] ++ [AV.sl 4 (p.2.2.map cGOp)])) (R' := fun p : List Int × (List Fact × List GOp) => IntsR p.1 ∧ (FactsR p.2.1 ∧ (p.2.2.length * 72 ≤ 140737488355328 ∧ ∀ o ∈ p.2.2, OpR o))) rfl (by kernel_rfl) oInts
      (opensF_cons (off' := 2) (en := fun l : List Int => [AV.sl 1 (l.map cI)]) (R := IntsR) (en' := fun p : List Fact × List GOp => [AV.sl 2 (p.1.map cF)] ++ [AV.sl 4 (p.2.map cGOp)]) (R' := fun p : List Fact × List GOp => FactsR p.1 ∧ (p.2.length * 72 ≤ 140737488355328 ∧ ∀ o ∈ p.2, OpR o)) rfl (by kernel_rfl) oInts
        (opensF_cons (off' := 3) (en := fun l : List Fact => [AV.sl 2 (l.map cF)]) (R := FactsR) (en' := fun l : List GOp => [AV.sl 4 (l.map cGOp)]) (R' := fun l : List GOp => l.length * 72 ≤ 140737488355328 ∧ ∀ o ∈ l, OpR o) rfl (by kernel_rfl) oFacts
          (opensF_last rfl (by kernel_rfl) (opens_slice Tryz.underlying24 (by kernel_rfl) (by kernel_rfl) (by decide) (by decide) oOp))))))
    (fun _ => rfl) (fun _ h => h)
/-- a struct argument -/
theorem arg_struct {P : Program} {t : TypeId} {fs : Array Field} {α : Type} {en : α → List AV} {R : α → Prop} {r : Reach} {b0 : Nat} {v : Value} {d : DataW H} {p : List MemPlace} (ht : P.underlying t = some (.struct fs)) (hv : Value.okWide P w r b0 t v) (ho : Opens enc P w base spare held t en R) (h : DataW.Trod enc P w base spare held t v d p) (hs : Sized P t d) :
    ∃ a, R a ∧ RV w nov mZ (.agg (en a)) v := by
  obtain ⟨cs, rfl, hsz⟩ := okWide_struct ht hv
  obtain ⟨fuel, hf⟩ := h
  obtain ⟨a, ha, hc⟩ := ho fuel _ _ hf hs
  exact ⟨a, ha, agg_rv hc⟩
end
theorem TaskR.sh {t : GTask} (h : TaskR t) : ShT t := by
  obtain ⟨⟨h1, -⟩, ⟨h2, -⟩, ⟨h3, -⟩, h4, h5⟩ := h
  refine ⟨?_, ?_, ?_, ?_, fun o ho => ?_⟩
  · show _ ≤ _; omega
  · show _ ≤ _; omega
  · show _ ≤ _; omega
  · show _ ≤ _; omega
  · obtain ⟨g1, ⟨g2, -⟩, g3, g4⟩ := h5 o ho
    refine ⟨by omega, ?_, ?_, fun e he => ?_⟩
    · show _ ≤ _; omega
    · show _ ≤ _; omega
    · have := (g4 e he).1
      show _ ≤ _; omega
theorem FactsR.sh {l : List Fact} (h : FactsR l) : Sh l := by have := h.1; show _ ≤ _; omega
theorem law_of {f : FuncId} {args : List AV} {w : World} {cargs : Array Value} (h : ACall cx f args (.c (.bool true))) (hs : cargs.size = args.length) (hr : ∀ (j : Nat) (x : AV) (v : Value), args[j]? = some x → cargs[j]? = some v → RV w nov (mO (fun _ => False)) x v) :
    Calls Tryz.prog f cargs w fun e w' => e = .returned (.bool true) ∧ Below w.heap.size w w' := by
  refine Calls.mono (h.2 w (fun _ => False) cargs trivial (Nat.zero_le _) (fun b hb => hb.elim) hs hr) ?_
  rintro e w' ⟨v, rfl, h1, h2, _⟩
  rw [rv_c h1]
  exact ⟨rfl, ⟨h2.os, h2.tape, h2.output, h2.size, fun b hb => h2.block b hb (fun h => h)⟩⟩
end Go.Proofs.YtohjegemooakpaaGreat.Am
/- stratagemlaw32.CertifyExact returns true for every input. No condition beyond the row's own. -/
namespace Go.Proofs.YtohjegemooakpaaGreat.rowExact
open Go.ChangeShapes Go.WideShapes Go.ChangeAt Go.RowKit Am
theorem laidOut : laidOutB Tryz.prog = true := by kernel_rfl
set_option maxRecDepth 100000 in
theorem contract (H : Type) (enc : TypeId × Value → H) (W : World) (base : Nat) (args : Array Value) (ds gs : List (DataW H)) (before : List MemPlace)
    (hval : ∀ (j : Nat) t v, Tryz.f3.params[j]? = some t → args[j]? = some v → Value.okWide Tryz.prog W .any base t v)
    (hW : DataW.Whole enc Tryz.prog Tryz.f3.params.toList Rows.certifyExactSpec.vars false W args.toList ds gs before)
    (hsz : (DataW.weightsEach Tryz.prog (Tryz.f3.params.toList ++ (OpenSpec.ofChange Rows.certifyExactSpec).bare.plain.varTypes Tryz.prog) (ds ++ gs)).all (· ≤ reachBytes) = true) :
    Calls Tryz.prog 3 args W fun e W' => ∃ v, e = .returned v ∧ Rows.certifyExactSpec.post enc Tryz.prog Tryz.f3 false true false false W args v W' := by
  have hW' := hW
  obtain ⟨p, q, hA0, hV, rfl, hfz, hnd⟩ := hW
  have hA : DataW.TrodAll enc Tryz.prog W 0 (fun _ => true) true Tryz.f3.params.toList args.toList ds p := hA0
  rw [Tryz.params3] at hA hval
  obtain ⟨v0, vs0, d0, ds0, p0, q0, hargs, rfl, rfl, h0, r0⟩ := trodAll_cons hA
  obtain ⟨v1, vs1, d1, ds1, p1, q1, rfl, rfl, rfl, h1, r1⟩ := trodAll_cons r0
  obtain ⟨rfl, rfl, rfl⟩ := trodAll_nil r1
  obtain rfl : args = #[v0, v1] := Array.ext' hargs
  obtain ⟨rfl, rfl⟩ := trodVars_none hV
  simp only [List.append_nil] at hW' hA0 hsz
  rw [Tryz.params3] at hsz
  obtain ⟨t, ht, k0⟩ := arg_struct Tryz.underlying26 (hval 0 26 v0 rfl rfl) oTask h0 (sized_arg hsz (j := 0) rfl rfl)
  obtain ⟨a, rfl, rfl, rfl, wa⟩ := open_int Tryz.underlying3 (hval 1 3 v1 rfl rfl) h1
  simp only [List.append_nil] at hW' hA0
  refine (law_of (A_l32_CertifyExact 1000000000000000000 t a (exact_true t ht.sh a)) rfl (fun j x v hx hv => ?_)).mono fun e W' ⟨he, hb⟩ => ?_
  · match j, hx, hv with
    | 0, hx, hv => simp at hx hv; subst hx hv; exact k0
    | 1, hx, hv => simp at hx hv; subst hx hv; exact .c _
    | j + 2, hx, hv => simp at hx
  · subst he
    exact ⟨_, rfl, law_post laidOut rfl (by kernel_rfl) Tryz.underlying4 (by kernel_rfl) hW' hA0 rfl rfl rfl hb⟩
theorem own : ownKnob Tryz.prog.godebug = none := by kernel_rfl
theorem laid_met (os : Os) : laidMet Tryz.prog Rows.certifyExactRow.laid ((World.holding Tryz.prog os ⟨#[], #[], []⟩).forCall (fun _ _ => 0) ⟨#[], #[.agg #[.slice none 0 0, .slice none 0 0, .slice none 0 0, .slice none 0 0], .int .i64 0], []⟩).memory :=
  laidMet_of_run' 8 (by kernel_rfl) (by kernel_rfl)
theorem reads (os : Os) {H : Type} (enc : TypeId × Value → H) : ∃ places, DataW.whole enc Tryz.prog ((World.holding Tryz.prog os ⟨#[], #[], []⟩).forCall (fun _ _ => 0) ⟨#[], #[.agg #[.slice none 0 0, .slice none 0 0, .slice none 0 0, .slice none 0 0], .int .i64 0], []⟩).memory Tryz.f3.params.toList Rows.certifyExactSpec.vars false (#[.agg #[.slice none 0 0, .slice none 0 0, .slice none 0 0, .slice none 0 0], .int .i64 0] : Array Value).toList 8 = some ([.agg [.nil, .nil, .nil, .nil], .lit (.int .i64 0)], [], places) :=
  ⟨[], by kernel_rfl⟩

set_option maxRecDepth 100000 in
theorem lifted (os : Os) (started : os.Started) (H : Type) (enc : TypeId × Value → H) (F : Stop.Interp) :
    ReturnsInHanded {} Tryz.checked os 3 .any ((OpenSpec.ofChange Rows.certifyExactSpec).preRow enc Tryz.prog Tryz.f3 Rows.certifyExactRow.domain false Rows.certifyExactRow.laid) (((OpenSpec.ofChange Rows.certifyExactSpec).at F).post enc Tryz.prog Tryz.f3 false true false false) := by
  obtain ⟨places, hx⟩ := reads os enc
  refine returnsInHanded_of_row (C := Tryz.checked) (s := OpenSpec.ofChange Rows.certifyExactSpec) own started (by kernel_rfl) Tryz.func3
    (witness_row_at (enc := enc) (C := Tryz.checked) false (World.holding Tryz.prog os ⟨#[], #[], []⟩) #[.agg #[.slice none 0 0, .slice none 0 0, .slice none 0 0, .slice none 0 0], .int .i64 0] rfl (by kernel_rfl) (by kernel_rfl) (by kernel_rfl)
      (OpenSpec.preRow_of_cond 8 hx (by kernel_rfl) (fun k hk => by cases hk) (by kernel_rfl) (laid_met os))) ?_
  intro W base args ds gs before hval hW _ _ hsz _ _ _
  exact contract H enc W base args ds gs before hval hW hsz

/-- THE STATEMENT. -/
theorem said : Rows.CertifyExactSaid :=
  OpenClaim.holds_of_cond 3 Tryz.f3 rfl rfl rfl rfl rfl rfl rfl ⟨rfl, rfl, rfl, rfl, rfl⟩ rfl rfl rfl rfl rfl (by kernel_rfl) Tryz.func3 (by kernel_rfl)
    (of_decide_eq_true (by kernel_rfl)) (by unfold Func.isWrapper; first | (rw [if_pos (by decide +kernel)]; kernel_rfl) | (rw [if_neg (by decide +kernel)]; exact ⟨rfl, rfl⟩))
    (fun os started H enc _ F => by rw [OpenClaim.pre_eq_preRow]; exact lifted os started H enc F)
end Go.Proofs.YtohjegemooakpaaGreat.rowExact
