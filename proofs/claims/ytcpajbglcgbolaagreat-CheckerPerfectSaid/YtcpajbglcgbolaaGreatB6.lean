/- Texts of the proof, part 6 of 7. -/
import Derived.Test.YtcpajbglcgbolaaGreatB5
import Derived.Test.YtcpajbglcgbolaaGreatB4
import Derived.Test.YtcpajbglcgbolaaGreatB2
import Derived.Laws.Cover3
/- Range loops of the models as recursions. -/
namespace Go.Proofs.YtcpajbglcgbolaaGreat.Am
def M_p_conflict_L1_B (a0 : List Fact) (_ : List Fact) (_y8 : Fact) (_ : Int) : Unit → (Unit → Option (Bool)) → Option (Bool) := fun _ rc => ixv _y8 (fun y8 =>
       ob1 (M_p_find a0 y8.1) (fun z9 =>
        sel (decide (z9 ≥ 0))
         (sel (z9 != y8.2)
           (some true)
           (rc ()))
         (rc ())))
def M_p_conflict_L1_E (_ : List Fact) (_ : List Fact) : Unit → Option (Bool) := fun _ => some false
theorem M_p_conflict_L1_rg (a0 : List Fact) (a1 : List Fact) (hl : a1.length < 9223372036854775807) : ∀ (k n : Nat) , n ≤ a1.length → a1.length < k + n → M_p_conflict_L1 a0 a1 k (n : Int) = Rg (M_p_conflict_L1_B a0 a1) (M_p_conflict_L1_E a0 a1) (a1.drop n) n () := by
  intro k n 
  refine rg_of (L := fun k i (p : Unit) => M_p_conflict_L1 a0 a1 k i) hl (fun k n p y hy hn => ?_) (fun k p => ?_) k n ()
  · have h1 := lt_some hy
    have h2 := w64s hn
    first | (simp only [M_p_conflict_L1, M_p_conflict_L1_B, List.length_map, decide_lt h1, sel, ix_at hy, ixv, h2]; done) | (simp only [List.length_map] at h1 hy; simp only [M_p_conflict_L1, M_p_conflict_L1_B, List.length_map, decide_lt h1, sel, ix_at hy, ixv, h2]; done)
  · simp only [M_p_conflict_L1, M_p_conflict_L1_E, List.length_map, decide_ge, sel]
theorem M_p_conflict_L1_eq (a0 : List Fact) (a1 : List Fact)  (hl : a1.length < 9223372036854775807) : M_p_conflict_L1 a0 a1 (((a1.map cF).length : Int).toNat + 1) 0 = Rg (M_p_conflict_L1_B a0 a1) (M_p_conflict_L1_E a0 a1) a1 0 () := by
  have h := M_p_conflict_L1_rg a0 a1 hl (a1.length + 1) 0  (Nat.zero_le _) (by omega)
  rw [List.length_map, Int.toNat_natCast]
  exact h
def M_pc_decide_L1_B (a0 : GCover) (a1 : List Fact) (_ : List (List Fact)) (_y30 : List Fact) (_ : Int) : ((List (List Fact))) → (((List (List Fact))) → Option ((List (List Fact)) ⊕ (Bool × GCover))) → Option ((List (List Fact)) ⊕ (Bool × GCover)) := fun v28 rc => ixv _y30 (fun y30 =>
       ob1 (M_p_contains a1 y30) (fun z31 =>
        sel z31
         (some (.inr (true, { vars := a0.vars, used := (IntKind.i64.wrap (a0.used + 1)), steps := a0.steps, full := a0.full : GCover })))
         (ob1 (M_p_conflict a1 y30) (fun z32 =>
           sel (!z32)
            (grd ((v28.length + 1) * 24 ≤ 140737488355328) (rc ((v28 ++ [y30]))))
            (rc (v28))))))
def M_pc_decide_L1_E (_ : GCover) (_ : List Fact) (_ : List (List Fact)) : ((List (List Fact))) → Option ((List (List Fact)) ⊕ (Bool × GCover)) := fun v28 => some (.inl v28)
theorem M_pc_decide_L1_rg (a0 : GCover) (a1 : List Fact) (a2 : List (List Fact)) (hl : a2.length < 9223372036854775807) : ∀ (k n : Nat) (v28 : List (List Fact)), n ≤ a2.length → a2.length < k + n → M_pc_decide_L1 a0 a1 a2 k (n : Int) v28 = Rg (M_pc_decide_L1_B a0 a1 a2) (M_pc_decide_L1_E a0 a1 a2) (a2.drop n) n v28 := by
  intro k n v28
  refine rg_of (L := fun k i (p : ((List (List Fact)))) => match p with | v28 => M_pc_decide_L1 a0 a1 a2 k i v28) hl (fun k n p y hy hn => ?_) (fun k p => ?_) k n v28
  · have h1 := lt_some hy
    have h2 := w64s hn
    first | (simp only [M_pc_decide_L1, M_pc_decide_L1_B, List.length_map, decide_lt h1, sel, ix_at hy, ixv, h2]; done) | (simp only [List.length_map] at h1 hy; simp only [M_pc_decide_L1, M_pc_decide_L1_B, List.length_map, decide_lt h1, sel, ix_at hy, ixv, h2]; done)
  · simp only [M_pc_decide_L1, M_pc_decide_L1_E, List.length_map, decide_ge, sel]
theorem M_pc_decide_L1_eq (a0 : GCover) (a1 : List Fact) (a2 : List (List Fact)) (v28 : List (List Fact)) (hl : a2.length < 9223372036854775807) : M_pc_decide_L1 a0 a1 a2 (((a2.map cL_cF).length : Int).toNat + 1) 0 v28 = Rg (M_pc_decide_L1_B a0 a1 a2) (M_pc_decide_L1_E a0 a1 a2) a2 0 v28 := by
  have h := M_pc_decide_L1_rg a0 a1 a2 hl (a2.length + 1) 0 v28 (Nat.zero_le _) (by omega)
  rw [List.length_map, Int.toNat_natCast]
  exact h
def M_pc_decide_L2_B (a1 : List Fact) (_ : List Fact) (_y199 : Fact) (_ : Int) : ((Int)) → (((Int)) → Option (Int)) → Option (Int) := fun v196 rc => ixv _y199 (fun y199 =>
       sel (decide (y199.1 < v196))
        (ob1 (M_p_find a1 y199.1) (fun z200 =>
          sel (decide (z200 < 0))
           (rc (y199.1))
           (rc (v196))))
        (rc (v196)))
def M_pc_decide_L2_E (_ : List Fact) (_ : List Fact) : ((Int)) → Option (Int) := fun v196 => some v196
theorem M_pc_decide_L2_rg (a1 : List Fact) (y189 : List Fact) (hl : y189.length < 9223372036854775807) : ∀ (k n : Nat) (v196 : Int), n ≤ y189.length → y189.length < k + n → M_pc_decide_L2 a1 y189 k v196 (n : Int) = Rg (M_pc_decide_L2_B a1 y189) (M_pc_decide_L2_E a1 y189) (y189.drop n) n v196 := by
  intro k n v196
  refine rg_of (L := fun k i (p : ((Int))) => match p with | v196 => M_pc_decide_L2 a1 y189 k v196 i) hl (fun k n p y hy hn => ?_) (fun k p => ?_) k n v196
  · have h1 := lt_some hy
    have h2 := w64s hn
    first | (simp only [M_pc_decide_L2, M_pc_decide_L2_B, List.length_map, decide_lt h1, sel, ix_at hy, ixv, h2]; done) | (simp only [List.length_map] at h1 hy; simp only [M_pc_decide_L2, M_pc_decide_L2_B, List.length_map, decide_lt h1, sel, ix_at hy, ixv, h2]; done)
  · simp only [M_pc_decide_L2, M_pc_decide_L2_E, List.length_map, decide_ge, sel]
theorem M_pc_decide_L2_eq (a1 : List Fact) (y189 : List Fact) (v196 : Int) (hl : y189.length < 9223372036854775807) : M_pc_decide_L2 a1 y189 (((y189.map cF).length : Int).toNat + 1) v196 0 = Rg (M_pc_decide_L2_B a1 y189) (M_pc_decide_L2_E a1 y189) y189 0 v196 := by
  have h := M_pc_decide_L2_rg a1 y189 hl (y189.length + 1) 0 v196 (Nat.zero_le _) (by omega)
  rw [List.length_map, Int.toNat_natCast]
  exact h
def M_pc_decide_L3_B (a1 : List Fact) (v15 : List (List Fact)) (v173 : Int) : ((Int)) → (((Int)) → Option (Int)) → Option (Int) := fun v172 rc => ob1 (ixn v15 ((v173).toNat) (fun y189 =>
        grd (0 ≤ v173) (grd (v173 < ((v15.length : Nat) : Int)) (M_pc_decide_L2 a1 y189 ((((y189.map cF).length : Int)).toNat + 1) v172 0))) : Option (Int))
       (fun v187 => rc (v187))
def M_pc_decide_L3_E (_ : List Fact) (_ : List (List Fact)) : ((Int)) → Option (Int) := fun v172 => some v172
theorem M_pc_decide_L3_rg (a1 : List Fact) (v15 : List (List Fact)) {m : Nat} (hm : ((v15.length : Nat) : Int) = (m : Int)) (hl : m < 9223372036854775807) : ∀ (k n : Nat) (v172 : Int), n ≤ m → m < k + n → M_pc_decide_L3 a1 v15 k v172 (n : Int) = Rn (M_pc_decide_L3_B a1 v15) (M_pc_decide_L3_E a1 v15) (m - n) n v172 := by
  intro k n v172
  refine rn_of (L := fun k i (p : ((Int))) => match p with | v172 => M_pc_decide_L3 a1 v15 k v172 i) hl (fun k n p hn => ?_) (fun k p => ?_) k n v172
  · have h2 := w64s (Nat.lt_trans hn hl)
    simp only [M_pc_decide_L3, M_pc_decide_L3_B, hm, decide_lt hn, sel, h2]
  · simp only [M_pc_decide_L3, M_pc_decide_L3_E, hm, decide_ge, sel]
theorem M_pc_decide_L3_eq (a1 : List Fact) (v15 : List (List Fact)) (v172 : Int) {m : Nat} (hm : ((v15.length : Nat) : Int) = (m : Int)) (hl : m < 9223372036854775807) : M_pc_decide_L3 a1 v15 ((((v15.length : Nat) : Int)).toNat + 1) v172 0 = Rn (M_pc_decide_L3_B a1 v15) (M_pc_decide_L3_E a1 v15) m 0 v172 := by
  have h := M_pc_decide_L3_rg a1 v15 hm hl (m + 1) 0 v172 (Nat.zero_le _) (by omega)
  have e : (((v15.length : Nat) : Int)).toNat = m := by rw [hm, Int.toNat_natCast]
  rw [e]
  exact h
def M_pc_decide_L4_B (a1 : List Fact) (rec : GCover → (List Fact) → (List (List Fact)) → Option (Bool × GCover)) (v116 : Int) (_ : Int) (v216 : Int) : ((List (List Fact)) × (List Int) × (Int) × (Int) × (Bool)) → (((List (List Fact)) × (List Int) × (Int) × (Int) × (Bool)) → Option (Bool × GCover)) → Option (Bool × GCover) := fun (v215, v217, v218, v219, v220) rc => ob1 (M_with a1 (v116, v216)) (fun z222 =>
       grd (z222.length ≤ 140737488355328) (ob2 (rec ({ vars := v217, used := v218, steps := v219, full := v220 : GCover }) z222 v215) (fun z223 c224 =>
        sel (!z223)
         (some (false, c224))
         (rc (v215, c224.vars, c224.used, c224.steps, c224.full)))))
def M_pc_decide_L4_E (_ : List Fact) (_ : GCover → (List Fact) → (List (List Fact)) → Option (Bool × GCover)) (_ : Int) (_ : Int) : ((List (List Fact)) × (List Int) × (Int) × (Int) × (Bool)) → Option (Bool × GCover) := fun (_, v217, v218, v219, v220) => some (true, { vars := v217, used := v218, steps := v219, full := v220 : GCover })
theorem M_pc_decide_L4_rg (a1 : List Fact) (rec : GCover → (List Fact) → (List (List Fact)) → Option (Bool × GCover)) (v116 : Int) (y201 : Int) {m : Nat} (hm : y201 = (m : Int)) (hl : m < 9223372036854775807) : ∀ (k n : Nat) (v215 : List (List Fact)) (v217 : List Int) (v218 : Int) (v219 : Int) (v220 : Bool), n ≤ m → m < k + n → M_pc_decide_L4 a1 rec v116 y201 k v215 (n : Int) v217 v218 v219 v220 = Rn (M_pc_decide_L4_B a1 rec v116 y201) (M_pc_decide_L4_E a1 rec v116 y201) (m - n) n (v215, v217, v218, v219, v220) := by
  intro k n v215 v217 v218 v219 v220
  refine rn_of (L := fun k i (p : ((List (List Fact)) × (List Int) × (Int) × (Int) × (Bool))) => match p with | (v215, v217, v218, v219, v220) => M_pc_decide_L4 a1 rec v116 y201 k v215 i v217 v218 v219 v220) hl (fun k n p hn => ?_) (fun k p => ?_) k n (v215, v217, v218, v219, v220)
  · have h2 := w64s (Nat.lt_trans hn hl)
    simp only [M_pc_decide_L4, M_pc_decide_L4_B, hm, decide_lt hn, sel, h2]
  · simp only [M_pc_decide_L4, M_pc_decide_L4_E, hm, decide_ge, sel]
theorem M_pc_decide_L4_eq (a1 : List Fact) (rec : GCover → (List Fact) → (List (List Fact)) → Option (Bool × GCover)) (v116 : Int) (y201 : Int) (v215 : List (List Fact)) (v217 : List Int) (v218 : Int) (v219 : Int) (v220 : Bool) {m : Nat} (hm : y201 = (m : Int)) (hl : m < 9223372036854775807) : M_pc_decide_L4 a1 rec v116 y201 ((y201).toNat + 1) v215 0 v217 v218 v219 v220 = Rn (M_pc_decide_L4_B a1 rec v116 y201) (M_pc_decide_L4_E a1 rec v116 y201) m 0 (v215, v217, v218, v219, v220) := by
  have h := M_pc_decide_L4_rg a1 rec v116 y201 hm hl (m + 1) 0 v215 v217 v218 v219 v220 (Nat.zero_le _) (by omega)
  have e : (y201).toNat = m := by rw [hm, Int.toNat_natCast]
  rw [e]
  exact h
end Go.Proofs.YtcpajbglcgbolaaGreat.Am
/- Plain: partial.Covered with its limit of steps. -/
namespace Go.Proofs.YtcpajbglcgbolaaGreat.Am
open Go.RowKit
theorem conflict_eq (p x : List Fact) (hp : Sh p) (hx : Sh x) : M_p_conflict p x = some (clashP p x) := by
  rw [M_p_conflict, M_p_conflict_L1_eq p x hx.lt, rg_all (p := fun f => !(decide (0 ≤ findF p f.1) && decide (findF p f.1 ≠ f.2))) (c := some true)]
  · rw [M_p_conflict_L1_E, clashP]
    have : (x.all fun f => !(decide (0 ≤ findF p f.1) && decide (findF p f.1 ≠ f.2))) = !(x.any fun f => decide (0 ≤ findF p f.1) && decide (findF p f.1 ≠ f.2)) := by rw [List.not_any_eq_all_not]
    rw [this]
    cases x.any fun f => decide (0 ≤ findF p f.1) && decide (findF p f.1 ≠ f.2) <;> rfl
  · intro y _ i rc
    rw [M_p_conflict_L1_B, ixv, find_eq p y.1 hp, ob1_some, sel_dec]
    by_cases h : 0 ≤ findF p y.1
    · rw [if_pos h, decide_eq_true h, Bool.true_and]
      by_cases e : findF p y.1 = y.2
      · rw [show (findF p y.1 != y.2) = false from by simp [e], sel_ff, if_pos (by simp [e])]
      · rw [show (findF p y.1 != y.2) = true from by simp [e], sel_tt, if_neg (by simp [e])]
    · rw [if_neg h, decide_eq_false h, Bool.false_and, Bool.not_false, if_pos rfl]
theorem dec1 (c : GCover) (hu : IntKind.i64.wrap (c.used + 1) = c.used + 1) (p : List Fact) (hp : Sh p) (hpv : vF (-1) p = true) (l : List (List Fact)) : ∀ (r : List (List Fact)) (i : Int) (v : List (List Fact)), (∀ x ∈ r, Sh x ∧ vF (-1) x = true) → v.length + r.length ≤ 1000000 →
    Rg (M_pc_decide_L1_B c p l) (M_pc_decide_L1_E c p l) r i v = some (if r.any (fun x => subF x p) = true then .inr (true, { vars := c.vars, used := c.used + 1, steps := c.steps, full := c.full : GCover }) else .inl (v ++ restP p r))
  | [], i, v, _, _ => by rw [Rg, M_pc_decide_L1_E]; simp [restP]
  | x :: r, i, v, hr, hl => by
    obtain ⟨hx, hxv⟩ := hr x (List.mem_cons_self ..)
    rw [List.length_cons] at hl
    have hr2 : ∀ x ∈ r, Sh x ∧ vF (-1) x = true := fun y hy => hr y (List.mem_cons_of_mem _ hy)
    rw [Rg, M_pc_decide_L1_B, ixv, contains_eq p x hp hx hpv hxv, ob1_some, List.any_cons]
    cases hs : subF x p with
    | true => rw [sel_tt, Bool.true_or, if_pos rfl, hu]
    | false =>
      rw [sel_ff, Bool.false_or, conflict_eq p x hp hx, ob1_some]
      cases hc : clashP p x with
      | true =>
        rw [Bool.not_true, sel_ff, dec1 c hu p hp hpv l r _ v hr2 (by omega)]
        simp only [restP, List.filter_cons, hc, Bool.not_true, Bool.false_eq_true, if_false]
      | false =>
        rw [Bool.not_false, sel_tt, grd_t (by omega), dec1 c hu p hp hpv l r _ (v ++ [x]) hr2 (by simp; omega)]
        simp only [restP, List.filter_cons, hc, Bool.not_false, if_true, List.append_assoc, List.singleton_append]
theorem dec2 (p : List Fact) (hp : Sh p) (x : List Fact) : ∀ (r : List Fact) (i v : Int), Rg (M_pc_decide_L2_B p x) (M_pc_decide_L2_E p x) r i v = some (lowF p r v)
  | [], i, v => rfl
  | f :: r, i, v => by
    rw [Rg, M_pc_decide_L2_B, ixv, sel_dec, lowF]
    by_cases h1 : f.1 < v
    · rw [if_pos h1, find_eq p f.1 hp, ob1_some, sel_dec]
      by_cases h2 : findF p f.1 < 0
      · rw [if_pos h2, if_pos ⟨h1, h2⟩, dec2 p hp x r]
      · rw [if_neg h2, if_neg (fun h => h2 h.2), dec2 p hp x r]
    · rw [if_neg h1, if_neg (fun h => h1 h.1), dec2 p hp x r]
theorem dec3 (p : List Fact) (hp : Sh p) (l : List (List Fact)) (hl : ∀ x ∈ l, Sh x) : ∀ (m n : Nat) (v : Int), n + m = l.length → Rn (M_pc_decide_L3_B p l) (M_pc_decide_L3_E p l) m n v = some (lowL p (l.drop n) v)
  | 0, n, v, h => by rw [Rn, M_pc_decide_L3_E, List.drop_eq_nil_of_le (by omega)]; rfl
  | m + 1, n, v, h => by
    obtain ⟨y, hy, hd⟩ := drop_at (show n < l.length by omega)
    rw [Rn, M_pc_decide_L3_B, Int.toNat_natCast, ixn_at hy, grd_t (by omega), grd_t (by omega), M_pc_decide_L2_eq p y v (hl y (List.mem_of_getElem? hy)).lt, dec2 p hp y, ob1_some, show ((n : Int) + 1) = ((n + 1 : Nat) : Int) from rfl, dec3 p hp l hl m (n + 1) _ (by omega), hd, lowL]
/-- an answer with its steps, and the steps that are left -/
def limR (vars : List Int) (steps u : Int) (r : Bool × Int) : Bool × GCover :=
  if u + r.2 ≤ steps then (r.1, { vars := vars, used := u + r.2, steps := steps, full := false }) else (false, { vars := vars, used := max u steps, steps := steps, full := true })
theorem kids_ge (f : Int → Bool × Int) (hf : ∀ y, 0 ≤ (f y).2) : ∀ (m : Nat) (x c : Int), c ≤ (kids f m x c).2
  | 0, x, c => Int.le_refl _
  | m + 1, x, c => by
    rw [kids]
    have := hf x
    split
    · have := kids_ge f hf m (x + 1) (c + (f x).2); omega
    · show c ≤ c + (f x).2; omega
theorem decA_pos (vars : List Int) : ∀ (d : Nat) (p : List Fact) (l : List (List Fact)), 1 ≤ (decA vars d p l).2
  | 0, _, _ => Int.le_refl _
  | d + 1, p, l => by
    rw [decA]
    split
    · exact Int.le_refl _
    · split
      · exact Int.le_refl _
      · exact kids_ge _ (fun y => by have := decA_pos vars d (pwithF p (lowL p (restP p l) vars.length, y)) (restP p l); omega) _ _ _
theorem dec4 (vars : List Int) (steps u : Int) (p : List Fact) (hp : p.length ≤ 64) (v y : Int) (l : List (List Fact)) (rec : GCover → List Fact → List (List Fact) → Option (Bool × GCover)) (f : Int → Bool × Int) (hf : ∀ y, 1 ≤ (f y).2) (top : Int)
    (hrec : ∀ x w : Int, 0 ≤ x → x < top → 0 ≤ w → rec { vars := vars, used := w, steps := steps, full := false } (pwithF p (v, x)) l = some (limR vars steps w (f x))) (hu : 0 ≤ u) : ∀ (m n : Nat) (c : Int), ((n + m : Nat) : Int) ≤ top → 1 ≤ c → u + c ≤ steps →
    Rn (M_pc_decide_L4_B p rec v y) (M_pc_decide_L4_E p rec v y) m n (l, vars, u + c, steps, false) = some (limR vars steps u (kids f m n c))
  | 0, n, c, _, _, hc => by rw [Rn, M_pc_decide_L4_E, kids, limR, if_pos hc]
  | m + 1, n, c, ht, h1, hc => by
    have hfn := hf n
    rw [Rn, M_pc_decide_L4_B, M_with, grd_t (by omega), ob1_some, grd_t (by rw [pwithF_len]; omega), hrec n (u + c) (by omega) (by omega) (by omega), kids]
    by_cases hk : u + c + (f n).2 ≤ steps
    · rw [limR, if_pos hk, ob2_some]
      cases hb : (f n).1 with
      | false => rw [Bool.not_false, sel_tt, if_neg (by simp), limR, if_pos (by show u + (c + (f n).2) ≤ steps; omega), Int.add_assoc]
      | true =>
        rw [Bool.not_true, sel_ff, if_pos rfl]
        have := dec4 vars steps u p hp v y l rec f hf top hrec hu m (n + 1) (c + (f n).2) (by omega) (by omega) (by omega)
        rw [← Int.add_assoc] at this
        exact this
    · rw [limR, if_neg hk, ob2_some, Bool.not_false, sel_tt]
      have hge : c + (f n).2 ≤ (if (f n).1 = true then kids f m (n + 1) (c + (f n).2) else (false, c + (f n).2)).2 := by
        split
        · exact kids_ge f (fun y => by have := hf y; omega) m _ _
        · exact Int.le_refl _
      rw [limR, if_neg (by omega), show max (u + c) steps = max u steps from by omega]
theorem decide_eq (vars : List Int) (hv : vars.length ≤ 64) (hd : ∀ n ∈ vars, n ≤ 64) (steps : Int) (hst : steps ≤ 9223372036854775806) : ∀ (d : Nat) (p : List Fact) (l : List (List Fact)), DecP vars d p l → l.length ≤ 100000 → ∀ (g : Nat) (u : Int), d ≤ g → 0 ≤ u →
    M_pc_decide g { vars := vars, used := u, steps := steps, full := false } p l = some (limR vars steps u (decA vars d p l))
  | 0, p, l, h, _, _, _, _, _ => h.zero.elim
  | d + 1, p, l, h, hl, g, u, hg, hu => by
    obtain ⟨g, rfl⟩ : ∃ k, g = k + 1 := ⟨g - 1, by omega⟩
    have hpl := prop_len hv h.prop
    have hps := prop_sh hv h.prop
    rw [M_pc_decide]
    simp only
    rw [sel_dec]
    by_cases hus : u ≥ steps
    · have := decA_pos vars (d + 1) p l
      rw [if_pos hus, limR, if_neg (by omega), show max u steps = u from by omega]
    · have hw : IntKind.i64.wrap (u + 1) = u + 1 := wrap_eq (by omega) (by omega)
      have hall : ∀ x ∈ l, Sh x ∧ vF (-1) x = true := fun x hx => ⟨prop_sh hv (h.all x hx), propF_vF' (h.all x hx)⟩
      rw [if_neg hus, M_pc_decide_L1_eq _ p l [] (by omega), dec1 _ hw p hps (propF_vF' h.prop) l l 0 [] hall (by simp; omega), ob1_some, decA]
      by_cases hc : l.any (fun x => subF x p) = true
      · rw [if_pos hc, if_pos hc, osum_inr, limR, if_pos (by show u + 1 ≤ steps; omega)]
      · have hrl : (restP p l).length ≤ l.length := List.length_filter_le _ _
        have e3 : Rn (M_pc_decide_L3_B p (restP p l)) (M_pc_decide_L3_E p (restP p l)) (restP p l).length 0 (vars.length : Int) = some (lowL p (restP p l) vars.length) := dec3 p hps (restP p l) (fun x hx => (hall x (List.mem_filter.1 hx).1).1) _ 0 _ (Nat.zero_add _)
        rw [if_neg hc, if_neg hc, osum_inl, List.nil_append, M_pc_decide_L3_eq p (restP p l) _ rfl (by omega), List.length_map, e3, ob1_some]
        by_cases hlo : lowL p (restP p l) vars.length = vars.length
        · rw [if_pos hlo, hlo, beq_self_eq_true, sel_tt, hw, limR, if_pos (by show u + 1 ≤ steps; omega)]
        · obtain ⟨h1, h2, h3⟩ := h.low hlo
          have hmem : vars.getD (lowL p (restP p l) vars.length).toNat 0 ∈ vars := by
            rw [List.getD_eq_getElem?_getD, List.getElem?_eq_getElem (by omega), Option.getD_some]
            exact List.getElem_mem _
          have hdo := h.dom _ hmem
          have hd2 := hd _ hmem
          rw [if_neg hlo, show (lowL p (restP p l) vars.length == (vars.length : Int)) = false from by simp [hlo], sel_ff, ix_getD (d := 0) h1 h2, grd_t (by omega), M_pc_decide_L4_eq p _ _ _ _ _ _ _ _ (m := (vars.getD (lowL p (restP p l) vars.length).toNat 0).toNat) (by omega) (by omega), hw]
          exact dec4 vars steps u p hpl _ _ (restP p l) _ (fun x => decA vars d (pwithF p (lowL p (restP p l) vars.length, x)) (restP p l)) (fun y => decA_pos vars d _ _) (vars.getD (lowL p (restP p l) vars.length).toNat 0)
            (fun x w x0 x1 w0 => decide_eq vars hv hd steps hst d _ _ (h.kid hlo x0 x1) (by omega) g w (by omega) w0) hu _ 0 1 (by omega) (by omega) (by omega)
/-- whether every state with p has an element of l, and the number of steps -/
def covA (vars : List Int) (p : List Fact) (l : List (List Fact)) : Bool × Int := decA vars (vars.length + 1) p l
structure DomP (vars : List Int) : Prop where
  len : vars.length ≤ 64
  dom : ∀ n ∈ vars, 1 ≤ n ∧ n ≤ 64
theorem good_dom {t : GTask} (h : goodF t = true) : DomP t.Vars := by
  unfold goodF at h
  simp only [Bool.and_eq_true, decide_eq_true_iff, List.all_eq_true] at h
  exact ⟨h.1.1, h.2.1⟩
theorem cov_pre {vars : List Int} (h : DomP vars) {p : List Fact} (hp : propF vars (-1) p = true) {l : List (List Fact)} (hl : PropL vars l) : DecP vars (vars.length + 1) p l := ⟨fun n hn => (h.dom n hn).1, hp, hl, by omega⟩
theorem covA_true {vars : List Int} (h : DomP vars) {p : List Fact} (hp : propF vars (-1) p = true) {l : List (List Fact)} (hl : PropL vars l) : (covA vars p l).1 = true ↔ ∀ s, stateF vars s = true → holdsF s p = true → some1 s l := decA_true _ p l (cov_pre h hp hl)
def covR (r : Bool × Int) (steps : Int) : Bool × Int × Er := if r.2 ≤ steps then (r.1, r.2, .nil) else (false, 0, .no 10)
theorem covered_eq {vars : List Int} (h : DomP vars) {p : List Fact} (hp : propF vars (-1) p = true) {l : List (List Fact)} (hl : PropL vars l) (hlen : l.length ≤ 100000) (steps : Int) (hst : steps ≤ 9223372036854775806) (g : Nat) (hg : 65 ≤ g) : M_p_Covered g vars p l steps = some (covR (covA vars p l) steps) := by
  have hv := h.len
  rw [M_p_Covered, facts_eq vars p (prop_sh hv hp), hp, ob1_some, Bool.not_true, sel_ff, containsFunc_eq (p := fun x => !propF vars (-1) x) (show _ ≤ _ by omega) (fun y hy => by
    rw [M_p_Covered_1, facts_eq vars y (prop_sh hv (hl y hy)), ob1_some])]
  have hany : (l.any fun x => !propF vars (-1) x) = false := by
    rw [Bool.eq_false_iff]
    intro hh
    obtain ⟨x, hx, e⟩ := List.any_eq_true.1 hh
    rw [hl x hx] at e
    cases e
  rw [hany, ob1_some, sel_ff, ob1_some, osum_inl, decide_eq vars hv (fun n hn => (h.dom n hn).2) steps hst _ p l (cov_pre h hp hl) hlen g 0 (by omega) (Int.le_refl _)]
  show ob2 (some (limR vars steps 0 (covA vars p l))) _ = _
  unfold limR covR
  rw [Int.zero_add]
  split <;> rfl
end Go.Proofs.YtcpajbglcgbolaaGreat.Am
/- A call that is lent own memory and leaves it as it is: it only reads. -/
namespace Go.Proofs.YtcpajbglcgbolaaGreat.Am
def sameUs (η : Nat → Ent) : List (Nat × Ent) → Prop
  | [] => True
  | (i, e) :: r => η i = e ∧ sameUs η r
theorem updAll_sameUs : ∀ {us : List (Nat × Ent)} {η : Nat → Ent}, sameUs η us → updAll η us = η
  | [], _, _ => rfl
  | (i, e) :: r, η, h => by
    have hu : updE η i e = η := by
      funext k
      unfold updE
      split
      · rename_i hk
        first | rw [hk, h.1] | rw [← hk, h.1] | (have := h.1; simp_all)
      · rfl
    rw [updAll, hu]
    exact updAll_sameUs h.2
theorem sameUs_congr : ∀ {us : List (Nat × Ent)} {η η' : Nat → Ent}, (∀ i ∈ us.map (·.1), η' i = η i) → sameUs η us → sameUs η' us
  | [], _, _, _, _ => trivial
  | _ :: _, _, _, h, hs => ⟨(h _ (List.mem_cons_self ..)).trans hs.1, sameUs_congr (fun k hk => h k (List.mem_cons_of_mem _ hk)) hs.2⟩
theorem lf_callK {C : Cx} {n : Nat} {o : Oper} {τ : Nat → AV} {η : Nat → Ent} {r' : AV} {nb : List (Nat × Ent)} (h : LF C n o τ η ⟨r', [] ++ nb, []⟩) (hs : sameUs η nb) : LF C n o τ η ⟨r', [], nb.map (·.1)⟩ := by
  intro τ' η' h1 h2
  have h3 : ∀ i ∈ nb.map (·.1), η' i = η i := fun i hi => h2 i (.inl hi)
  have := h τ' η' h1 (fun i hi => h3 i (by rcases hi with hi | hi; cases hi; exact hi))
  rwa [List.nil_append, updAll_sameUs (sameUs_congr h3 hs)] at this
theorem awp_cutT {C : Cx} {s : St} {Q : Exit → St → Prop} {α : Type} {x : Code} (J : α → St) (P : α → Prop) (h1 : AWP C x (thenA (fun s' => ∃ v, P v ∧ leK s' (J v) True) Q) s)
    (h2 : ∀ v, P v → forceK (J v).tm (fun tm => forceK (J v).hp (fun hp => True → Q .normal ⟨tm, hp⟩))) : AWP C x Q s := by
  unfold AWP at h1 ⊢
  intro w0 X m a w hr
  refine wp_mono (h1 w0 X m a w hr) ?_
  rintro e a' w' ⟨s', m', g1, g2, g3⟩
  cases e with
  | normal =>
    obtain ⟨v, hp, hl⟩ := g2
    obtain ⟨l1, _, l2⟩ := leK_ok (C := C) hl
    obtain ⟨m2, r2⟩ := l2 w0 X m' a' w' g3
    exact ⟨J v, m2, by rw [← g1]; first | exact l1 | exact l1.symm, forceK_ok (forceK_ok (h2 v hp)) trivial, r2⟩
  | _ => exact ⟨s', m', g1, g2, g3⟩
theorem lf_nilneq {C : Cx} {n : Nat} {o : Oper} {τ : Nat → AV} {η : Nat → Ent} {xt yt e : TypeId} {x y : Operand} {ti : TI} (ho : o.op = .binOp .neq xt x y yt) (hd : InB n o.dst) (hx : evA τ x = .c (.slice none 0 0)) (hy : evA τ y = .c (.slice none 0 0)) (ht : TyOk C.P xt ti) (hk : ti.kind = .slice e) : LF C n o τ η ⟨.c (.bool false), [], []⟩ := by
  refine lf_pure hd (fun τ' η' g1 _ => ?_)
  intro w0 X m a w h
  have h1 := h.ev x
  have h2 := h.ev y
  rw [g1 x (by simp [ho, Op.operands]), hx] at h1
  rw [g1 y (by simp [ho, Op.operands]), hy] at h2
  refine ⟨_, ?_, .c _⟩
  have he := fun w => run_equal_slice_nil (P := C.P) w xt e none 0 0 (ht.sliceU hk)
  simp [execOp, ho, rv_c h1, rv_c h2, eqGuard, Go.binOp, he]
theorem cons_eq {α : Type} {a b : α} {l m : List α} (h : a = b) (h2 : l = m) : a :: l = b :: m := by rw [h, h2]
theorem sl_dt {α : Type} {e : AV} {k m n : Nat} {f : α → List AV} {l : List α} (h : e = AV.sl k (List.drop m (List.take n (List.map f l)))) : e = AV.sl k (List.map f (List.drop m (List.take n l))) := h.trans (by rw [List.map_drop, List.map_take])
end Go.Proofs.YtcpajbglcgbolaaGreat.Am
/- Models printed by my decompiler, and the proofs that the code computes them. -/
namespace Go.Proofs.YtcpajbglcgbolaaGreat.Am
open Go.RowKit
structure GCertificate where
  Bound : Int
  Nogoods : List Nogood
  deriving DecidableEq
def cGCertificate (x : GCertificate) : List AV := [.c (.int .i64 x.Bound), .sl 2 (x.Nogoods.map cN)]
theorem fr_cGCertificate (x : GCertificate) : ∀ y ∈ cGCertificate x, Fr y := FrC_cons (.c _) (FrC_cons (.sl (frl_cN _)) (FrC_nil))
theorem frl_cGCertificate (l : List GCertificate) : FrL (l.map cGCertificate) := FrL_map (fun x _ => fr_cGCertificate x)
instance {l : List GCertificate} : FrI (l.map cGCertificate) := ⟨frl_cGCertificate l⟩
structure GChecker where
  t : GTask
  c : GCertificate
  steps : Int
  deriving DecidableEq
def cGChecker (x : GChecker) : List AV := [.sl 1 (x.t.Vars.map cI), .sl 1 (x.t.Init.map cI), .sl 2 (x.t.Goal.map cF), .sl 4 (x.t.Ops.map cGOp), .c (.int .i64 x.c.Bound), .sl 2 (x.c.Nogoods.map cN), .c (.int .i64 x.steps)]
theorem fr_cGChecker (x : GChecker) : ∀ y ∈ cGChecker x, Fr y := FrC_cons (.sl (frl_cI _)) (FrC_cons (.sl (frl_cI _)) (FrC_cons (.sl (frl_cF _)) (FrC_cons (.sl (frl_cGOp _)) (FrC_cons (.c _) (FrC_cons (.sl (frl_cN _)) (FrC_cons (.c _) (FrC_nil)))))))
theorem frl_cGChecker (l : List GChecker) : FrL (l.map cGChecker) := FrL_map (fun x _ => fr_cGChecker x)
instance {l : List GChecker} : FrI (l.map cGChecker) := ⟨frl_cGChecker l⟩
theorem zb_XDChk {P : Prop} (h : P := by repeat (first | exact BWL.nil | exact bwll_nil | exact bw_c | exact BW.sl | exact BW.nil | exact bwll_same rfl FrI.h | refine BWL.cons ?_ ?_ | refine bwll_cons ?_ ?_ | (refine bw_own3 rfl rfl rfl FrI.h ?_ ?_ ?_) | exact BW.fr FrV.h | exact BW.fr (by assumption) | refine bw_agg ?_ | refine bw_clo ?_ | refine bw_ptr rfl rfl rfl ?_ | (refine bw_own rfl rfl rfl ?_ FrI.h ?_ ?_) | assumption | omega | rfl | (rw [List.length_map, ← List.length_append]; assumption) | (refine bwll_same ?_ FrI.h; (simp [cGTask, cI, cF, cGOp, cGEffect, cGCertificate, cN, cGChecker, cL_cF] <;> fail)) | (rw [List.map_set]; refine bwll_set (by first | rfl | omega | simp) ?_ ?_) | refine bwll_set (by first | rfl | omega | simp) ?_ ?_ | (rw [List.map_replicate]; refine bwll_rep ?_) | refine bwll_rep ?_ | (rw [List.map_append]; refine bwll_append ?_ ?_) | refine bwll_append ?_ ?_ | (simp [cGTask, cI, cF, cGOp, cGEffect, cGCertificate, cN, cGChecker, cL_cF, take_len_map] <;> fail) | (rw [List.drop_zero, List.take_of_length_le] <;> first | rfl | (simp [cGTask, cI, cF, cGOp, cGEffect, cGCertificate, cN, cGChecker, cL_cF] <;> fail)) | (simp; omega))) : P := h
theorem zg_XDChk {P : Prop} (h : P := by repeat (first | exact True.intro | exact gb_nil rfl rfl | refine gb_some ⟨rfl, rfl, rfl⟩ ?_ | refine And.intro ?_ ?_ | refine gw_ren rfl rfl rfl rfl rfl ?_ | refine gw_pren rfl rfl rfl rfl rfl | exact gw_thaw rfl rfl rfl | refine gw_tup ?_ | exact GWL.nil | exact gwll_nil | exact gw_c | exact GW.sl | exact GW.nil | exact gwll_same rfl FrI.h | refine GWL.cons ?_ ?_ | refine gwll_cons ?_ ?_ | (refine gw_own3 rfl rfl rfl FrI.h ?_ ?_ ?_) | exact GW.fr FrV.h | exact GW.fr (by assumption) | refine gw_agg ?_ | refine gw_clo ?_ | refine gw_ptr rfl rfl rfl ?_ | (refine gw_own rfl rfl rfl ?_ FrI.h ?_ ?_) | assumption | omega | rfl | (rw [List.length_map, ← List.length_append]; assumption) | (refine gwll_same ?_ FrI.h; (simp [cGTask, cI, cF, cGOp, cGEffect, cGCertificate, cN, cGChecker, cL_cF] <;> fail)) | (rw [List.map_set]; refine gwll_set (by first | rfl | omega | simp) ?_ ?_) | refine gwll_set (by first | rfl | omega | simp) ?_ ?_ | (rw [List.map_replicate]; refine gwll_rep ?_) | refine gwll_rep ?_ | (rw [List.map_append]; refine gwll_append ?_ ?_) | refine gwll_append ?_ ?_ | (simp [cGTask, cI, cF, cGOp, cGEffect, cGCertificate, cN, cGChecker, cL_cF, take_len_map] <;> fail) | (rw [List.drop_zero, List.take_of_length_le] <;> first | rfl | (simp [cGTask, cI, cF, cGOp, cGEffect, cGCertificate, cN, cGChecker, cL_cF] <;> fail)) | (simp; omega))) : P := h
theorem zn_XDChk {P : Prop} (h : P := by repeat (first | exact True.intro | rfl | exact Nat.le_of_ble_eq_true rfl | exact gb_nil rfl rfl | refine gb_some ⟨rfl, rfl, rfl⟩ ?_ | refine And.intro ?_ ?_ | refine gw_ren rfl rfl rfl rfl rfl ?_ | refine gw_pren rfl rfl rfl rfl rfl | exact gw_thaw rfl rfl rfl | refine gw_tup ?_ | exact GWL.nil | exact gwll_nil | exact gw_c | exact GW.sl | exact GW.nil | exact gwll_same rfl FrI.h | refine GWL.cons ?_ ?_ | refine gwll_cons ?_ ?_ | (refine gw_own3 rfl rfl rfl FrI.h ?_ ?_ ?_) | exact GW.fr FrV.h | exact GW.fr (by assumption) | refine gw_agg ?_ | refine gw_clo ?_ | refine gw_ptr rfl rfl rfl ?_ | (refine gw_own rfl rfl rfl ?_ FrI.h ?_ ?_) | assumption | omega | rfl | (rw [List.length_map, ← List.length_append]; assumption) | (refine gwll_same ?_ FrI.h; (simp [cGTask, cI, cF, cGOp, cGEffect, cGCertificate, cN, cGChecker, cL_cF] <;> fail)) | (rw [List.map_set]; refine gwll_set (by first | rfl | omega | simp) ?_ ?_) | refine gwll_set (by first | rfl | omega | simp) ?_ ?_ | (rw [List.map_replicate]; refine gwll_rep ?_) | refine gwll_rep ?_ | (rw [List.map_append]; refine gwll_append ?_ ?_) | refine gwll_append ?_ ?_ | (simp [cGTask, cI, cF, cGOp, cGEffect, cGCertificate, cN, cGChecker, cL_cF, take_len_map] <;> fail) | (rw [List.drop_zero, List.take_of_length_le] <;> first | rfl | (simp [cGTask, cI, cF, cGOp, cGEffect, cGCertificate, cN, cGChecker, cL_cF] <;> fail)) | (simp; omega))) : P := h
theorem ci_XDChk {p K : Prop} (k : K) (h : p := by first | rfl | exact ⟨rfl, rfl⟩ | exact BW.fr FrV.h | (refine BW.fr ?_; assumption) | (refine ⟨rfl, ?_⟩; (simp [cGTask, cI, cF, cGOp, cGEffect, cGCertificate, cN, cGChecker, cL_cF, take_len_map]; done)) | (refine RowK.same ?_ FrI.h; first | rfl | (simp [cGTask, cI, cF, cGOp, cGEffect, cGCertificate, cN, cGChecker, cL_cF, take_len_map]; done)) | (refine row_part1 ?_; (exact zb_XDChk); done) | ((exact zb_XDChk); done) | (simp [cGTask, cI, cF, cGOp, cGEffect, cGCertificate, cN, cGChecker, cL_cF, take_len_map]; done)) : p ∧ K := ⟨h, k⟩
theorem ca_XDChk {P : Prop} (h : P := by repeat (first | exact True.intro | refine ci_XDChk ?_)) : P := h
theorem pr_XDChk {p K : Prop} (k : K) (h : p := by first | assumption | exact Int.natCast_nonneg _ | exact Nat.le_refl _ | exact Nat.zero_le _ | omega | (simp; done) | (simp; omega)) : p ∧ K := ⟨h, k⟩
theorem pl_XDChk {p K : Prop} (k : K) (h : p := by first | rfl | exact List.length_map _ | (simp; done) | (simp; omega)) : p ∧ K := ⟨h, k⟩
theorem pe_XDChk {p K : Prop} (k : K) (h : p := by first | omega | (simp; omega) | (simp only [List.length_map, List.length_cons, List.length_nil, List.length_append]; omega)) : p ∧ K := ⟨h, k⟩
theorem dr_XDChk {b : Bool} {p K : Prop} (k : K) (h : b = true → p := by intro h; first | (cases h; done) | exact ⟨by kernel_rfl, by kernel_rfl⟩) : (b = true → p) ∧ K := ⟨h, k⟩
theorem cl_XDChk {C : Cx} {n : Nat} {o : Oper} {τ : Nat → AV} {η : Nat → Ent} {f : FuncId} {os : Array Operand} {ats : Array TypeId} {r : AV} {args : List AV} {K : Foot → Prop} (ho : o.op = .call ⟨.value (.func f), os, ats⟩) (hc : ACall C f args r) (k : K ⟨r, [], []⟩)
    (hd : InB n o.dst := by exact Nat.le_of_ble_eq_true rfl) (hargs : os.toList.map (evA τ) = args := by first | rfl | (simp [cGTask, cI, cF, cGOp, cGEffect, cGCertificate, cN, cGChecker, cL_cF]; done)) (hfr : frs args := by repeat (first | exact trivial | exact fr1_eA _ | exact fr0_eA _ | exact fr1_fr (by assumption) | exact FrV.h | refine And.intro ?_ ?_)) (hr : fr1 r := by repeat (first | exact trivial | exact fr1_eA _ | exact fr0_eA _ | exact fr1_fr (by assumption) | exact FrV.h | refine And.intro ?_ ?_)) : ∃ f : Foot, LF C n o τ η f ∧ K f := ⟨_, lf_call ho hd hargs hc hfr hr, k⟩
theorem clb_XDChk {C : Cx} {n : Nat} {o : Oper} {τ : Nat → AV} {η : Nat → Ent} {f : FuncId} {os : Array Operand} {ats : Array TypeId} {r : AV} {xs ys : List AV} {K : Foot → Prop} (bs : List Nat) (ho : o.op = .call ⟨.value (.func f), os, ats⟩) (hargs : os.toList.map (evA τ) = xs) (hc : ACall C f ys r) (k : K ⟨r, [], bs⟩)
    (hd : InB n o.dst := by exact Nat.le_of_ble_eq_true rfl) (hb : BWL η (dropB η bs) xs ys := by exact zb_XDChk) (hr : scal r := by repeat (first | exact trivial | exact scal0_eA _ | exact scal_eA _ | refine And.intro ?_ ?_)) : ∃ f : Foot, LF C n o τ η f ∧ K f := ⟨_, lf_callB bs ho hd hargs hb hc hr, k⟩
theorem clg_XDChk {C : Cx} {n : Nat} {o : Oper} {τ : Nat → AV} {η : Nat → Ent} {f : FuncId} {os : Array Operand} {ats : Array TypeId} {r : AV} {xs ys : List AV} {bs bs' : List (Nat × Blk)} {ks : List Nat} {K : Foot → Prop} (ρ : List (Nat × Nat)) (fz : List Nat) (go nb : List (Nat × Ent)) (r' : AV) (ho : o.op = .call ⟨.value (.func f), os, ats⟩) (hargs : os.toList.map (evA τ) = xs)
    (hc : ACallG C f ys bs ks r bs') (k : K ⟨r', go ++ nb, []⟩) (hd : InB n o.dst := by exact Nat.le_of_ble_eq_true rfl) (hok : okC ρ fz bs ks bs' (idsE go) = true := by rfl) (hgo : allUs η go := by repeat (first | exact trivial | refine And.intro rfl ?_)) (hgl : ltUs n go := by repeat (first | exact trivial | refine And.intro (Nat.le_of_ble_eq_true rfl) ?_))
    (hw : GWL η (fE bs) (lk ρ) (fun i => inB fz i = true) (fun i => inB (keys bs) i = true) xs ys := by exact zg_XDChk) (hb : GBL η (fE bs) (lk ρ) (fun i => inB fz i = true) (fun i => inB (keys bs) i = true) bs := by exact zg_XDChk)
    (hr : GW (fE bs') (updAll η (go ++ nb)) (lk (backN ρ bs')) (fun _ => False) (fun i => inB (idsE nb) i = true) r r' := by exact zg_XDChk)
    (hnb : nbOk n η (updAll η (go ++ nb)) ρ ks (fE bs') (lk (backN ρ bs')) (fun i => inB (idsE nb) i = true) bs' nb := by exact zn_XDChk) : ∃ f : Foot, LF C n o τ η f ∧ K f := ⟨_, lf_callG ρ fz go nb ho hd hargs hc hok hgo hgl hw hb hr hnb, k⟩
theorem clk_XDChk {C : Cx} {n : Nat} {o : Oper} {τ : Nat → AV} {η : Nat → Ent} {f : FuncId} {os : Array Operand} {ats : Array TypeId} {r : AV} {xs ys : List AV} {bs bs' : List (Nat × Blk)} {ks : List Nat} {K : Foot → Prop} (ρ : List (Nat × Nat)) (nb : List (Nat × Ent)) (r' : AV) (ho : o.op = .call ⟨.value (.func f), os, ats⟩) (hargs : os.toList.map (evA τ) = xs)
    (hc : ACallG C f ys bs ks r bs') (k : K ⟨r', [], nb.map (·.1)⟩) (hd : InB n o.dst := by exact Nat.le_of_ble_eq_true rfl) (hok : okC ρ [] bs ks bs' (idsE []) = true := by rfl)
    (hw : GWL η (fE bs) (lk ρ) (fun i => inB [] i = true) (fun i => inB (keys bs) i = true) xs ys := by exact zg_XDChk) (hb : GBL η (fE bs) (lk ρ) (fun i => inB [] i = true) (fun i => inB (keys bs) i = true) bs := by exact zg_XDChk)
    (hr : GW (fE bs') (updAll η ([] ++ nb)) (lk (backN ρ bs')) (fun _ => False) (fun i => inB (idsE nb) i = true) r r' := by exact zg_XDChk)
    (hnb : nbOk n η (updAll η ([] ++ nb)) ρ ks (fE bs') (lk (backN ρ bs')) (fun i => inB (idsE nb) i = true) bs' nb := by exact zn_XDChk) (hs : sameUs η nb := by repeat (first | exact True.intro | refine And.intro rfl ?_)) : ∃ f : Foot, LF C n o τ η f ∧ K f := ⟨_, lf_callK (lf_callG ρ [] [] nb ho hd hargs hc hok True.intro True.intro hw hb hr hnb) hs, k⟩
def M_ce_formed_L1 (a0 : List Fact) : Nat → Int → Option (Bool)
  | 0, _ => none
  | k6 + 1, v5 =>
    sel (decide (v5 < ((a0.map cF).length : Int)))
     (ix a0 v5 (fun y7 =>
       sel (decide (y7.1 < 0))
        (some false)
        (sel (decide (y7.1 ≥ 64))
          (some false)
          (sel (decide (y7.2 < 0))
            (some false)
            (sel (decide (y7.2 ≥ 64))
              (some false)
              (sel (decide (v5 > 0))
                (ix a0 (IntKind.i64.wrap (v5 - 1)) (fun y8 =>
                  sel (decide (y8.1 ≥ y7.1))
                   (some false)
                   (M_ce_formed_L1 a0 k6 (IntKind.i64.wrap (v5 + 1)))))
                (M_ce_formed_L1 a0 k6 (IntKind.i64.wrap (v5 + 1)))))))))
     (some true)
def M_ce_formed (a0 : List Fact) : Option (Bool) :=
  M_ce_formed_L1 a0 ((((a0.map cF).length : Int)).toNat + 1) 0
set_option maxHeartbeats 16000000 in
set_option maxRecDepth 100000 in
theorem A_ce_formed (a0 : List Fact) {r1 : Bool} (h : M_ce_formed a0 = some r1) : ACall cx 47 [.sl 2 (a0.map cF)] (.c (.bool r1)) := by
  refine aOf Tryz.func47 rfl (by decide) rfl (Nat.le_of_ble_eq_true rfl) ?_; intro _; unfold M_ce_formed at h; refine aSq ?_; refine aRg ?_; intro _; refine dr_XDChk ?_; refine aSq ?_; refine aSq ?_; refine aRg ?_; intro _; refine dr_XDChk ?_; refine aBk ?_; refine awp_loop (α := Nat × Int) (fun x => mkS 46 [(0, .sl 2 (a0.map cF)), (5, .sl 2 (a0.map cF)), (6, .c (.int .i64 ((a0.map cF).length : Int))), (7, .c (.int .i64 x.2))] []) (fun x => M_ce_formed_L1 a0 x.1 x.2 = some r1) (fun x => x.1) ((((a0.map cF).length : Int)).toNat + 1, 0) h ?_ ?_
  · exact ca_XDChk
  · intro x1 h; intro _; obtain ⟨k6, m2, h⟩ := succ_of (f := fun n => M_ce_formed_L1 a0 n x1.2) rfl h; replace h : M_ce_formed_L1 a0 (k6 + 1) x1.2 = some r1 := h; rw [M_ce_formed_L1] at h; refine aSq ?_; refine aRg ?_; intro _; refine dr_XDChk ?_; refine aSq ?_; refine aCd ?_; intro _; refine spl h (fun c3 h => ?_) (fun c3 h => ?_)
    · refine aSk ?_; refine aSq ?_; refine aBk ?_; refine aSq ?_; refine aRg ?_; intro _; obtain ⟨y7, w4, q5, h⟩ := ix_ok h; refine Exists.intro (cF y7) (And.intro (map_at' w4) ?_); intro _; refine pr_XDChk ?_; refine dr_XDChk ?_; refine aSq ?_; refine aRg ?_; intro _; refine spf h (fun c6 h => ?_) (fun c6 h => ?_)
      · intro _; refine spf h (fun c7 h => ?_) (fun c7 h => ?_)
        · intro _; refine spf h (fun c8 h => ?_) (fun c8 h => ?_)
          · intro _; refine spf h (fun c9 h => ?_) (fun c9 h => ?_)
            · intro _; refine spl h (fun c10 h => ?_) (fun c10 h => ?_)
              · intro _; obtain ⟨y8, w11, q12, h⟩ := ix_ok h; refine Exists.intro (cF y8) (And.intro (map_at' w11) ?_); intro _; refine pr_XDChk ?_; refine dr_XDChk ?_; refine aCd ?_; intro _; refine spl h (fun c13 h => ?_) (fun c13 h => ?_)
                · refine aSq ?_; refine aRg ?_; intro _; refine dr_XDChk ?_; refine aRt ?_; intro _; obtain rfl := inj1 h; exact ca_XDChk
                · refine aSk ?_; refine aRg ?_; intro _; refine dr_XDChk ?_; refine ⟨(k6, (IntKind.i64.wrap (x1.2 + 1))), h, ltS m2, ?_⟩; exact ca_XDChk
              · intro _; refine dr_XDChk ?_; refine aCd ?_; intro _; refine litF ?_; refine aSk ?_; refine aRg ?_; intro _; refine dr_XDChk ?_; refine ⟨(k6, (IntKind.i64.wrap (x1.2 + 1))), h, ltS m2, ?_⟩; exact ca_XDChk
            · intro _; refine dr_XDChk ?_; refine aCd ?_; intro _; refine litT ?_; refine aSq ?_; refine aRg ?_; intro _; refine dr_XDChk ?_; refine aRt ?_; intro _; obtain rfl := inj1 h; exact ca_XDChk
          · intro _; refine dr_XDChk ?_; refine aCd ?_; intro _; refine litT ?_; refine aSq ?_; refine aRg ?_; intro _; refine dr_XDChk ?_; refine aRt ?_; intro _; obtain rfl := inj1 h; exact ca_XDChk
        · intro _; refine dr_XDChk ?_; refine aCd ?_; intro _; refine litT ?_; refine aSq ?_; refine aRg ?_; intro _; refine dr_XDChk ?_; refine aRt ?_; intro _; obtain rfl := inj1 h; exact ca_XDChk
      · intro _; refine dr_XDChk ?_; refine aCd ?_; intro _; refine litT ?_; refine aSq ?_; refine aRg ?_; intro _; refine dr_XDChk ?_; refine aRt ?_; intro _; obtain rfl := inj1 h; exact ca_XDChk
    · refine aEx ?_; refine aSq ?_; refine aRg ?_; intro _; refine dr_XDChk ?_; refine aRt ?_; intro _; obtain rfl := inj1 h; exact ca_XDChk
def M_ce_Check_L1 (a0 : GCertificate) : Nat → Int → Option (Unit ⊕ Er)
  | 0, _ => none
  | k20 + 1, v19 =>
    sel (decide (v19 < ((a0.Nogoods.map cN).length : Int)))
     (ix a0.Nogoods v19 (fun y21 =>
       ob1 (M_ce_formed y21.1) (fun z22 =>
        sel (!z22)
         (some (.inr (Er.no 2)))
         (M_ce_Check_L1 a0 k20 (IntKind.i64.wrap (v19 + 1))))))
     (some (.inl ()))
def M_ce_Check_L2 (a0 : GCertificate) : Nat → Int → Option (Er)
  | 0, _ => none
  | k27 + 1, v26 =>
    sel (decide (v26 < ((a0.Nogoods.map cN).length : Int)))
     (ix a0.Nogoods v26 (fun y28 =>
       sel (decide (y28.2 < 0))
        (some (Er.no 1))
        (sel (decide (a0.Bound ≥ 0))
          (sel (decide (y28.2 ≥ a0.Bound))
            (some (Er.no 1))
            (sel (decide (a0.Bound < 0))
              (sel (y28.2 != 0)
                (some (Er.no 1))
                (M_ce_Check_L2 a0 k27 (IntKind.i64.wrap (v26 + 1))))
              (M_ce_Check_L2 a0 k27 (IntKind.i64.wrap (v26 + 1)))))
          (sel (decide (a0.Bound < 0))
            (sel (y28.2 != 0)
              (some (Er.no 1))
              (M_ce_Check_L2 a0 k27 (IntKind.i64.wrap (v26 + 1))))
            (M_ce_Check_L2 a0 k27 (IntKind.i64.wrap (v26 + 1)))))))
     (some Er.nil)
def M_ce_Check (a0 : GCertificate) : Option (Er) :=
  ob1 (sel (decide (a0.Bound < (-1)))
    (some (.inr (Er.no 1)))
    (sel (decide (a0.Bound > 1099511627776))
      (some (.inr (Er.no 1)))
      (some (.inl ()))) : Option (Unit ⊕ Er))
   (osum
   (fun _ => sel (decide (((a0.Nogoods.map cN).length : Int) > 4096))
      (some (Er.no 5))
      (ob1 (M_ce_Check_L1 a0 ((((a0.Nogoods.map cN).length : Int)).toNat + 1) 0 : Option (Unit ⊕ Er))
        (osum
        (fun _ => M_ce_Check_L2 a0 ((((a0.Nogoods.map cN).length : Int)).toNat + 1) 0)
        (fun r12 => some r12))))
   (fun r1 => some r1))
set_option maxHeartbeats 16000000 in
set_option maxRecDepth 100000 in
theorem A_ce_Check (a0 : GCertificate) {r1 : Er} (h : M_ce_Check a0 = some r1) : ACall cx 26 [.agg [.c (.int .i64 a0.Bound), .sl 2 (a0.Nogoods.map cN)]] (eA r1) := by
  refine aOf Tryz.func26 rfl (by decide) rfl (Nat.le_of_ble_eq_true rfl) ?_; intro _; unfold M_ce_Check at h; refine aSq ?_; refine aRg ?_; intro _; refine dr_XDChk ?_; obtain ⟨o1, h, hK2⟩ := ob1_ok h; refine awp_cut (α := Unit) (fun _ => mkS 68 [(1, .ptr 1 0 0 0)] [(1, ⟨29, 2, true, [[.c (.int .i64 a0.Bound), .sl 2 (a0.Nogoods.map cN)]]⟩)]) (fun v => o1 = (.inl v)) ?_ ?_
  · refine aSq ?_; refine aRg ?_; intro _; refine spf h (fun c3 h => ?_) (fun c3 h => ?_)
    · intro _; refine dr_XDChk ?_; refine aCd ?_; intro _; refine spl h (fun c4 h => ?_) (fun c4 h => ?_)
      · refine aSq ?_; refine aRg ?_; intro _; refine dr_XDChk ?_; refine aRt ?_; have j5 := Option.some.inj h; subst j5; replace h := (osum_r hK2); intro _; obtain rfl := inj1 h; exact ca_XDChk
      · refine aSk ?_; refine ⟨(), (Option.some.inj h).symm, ?_⟩; exact ca_XDChk
    · intro _; refine dr_XDChk ?_; refine aCd ?_; intro _; refine litT ?_; refine aSq ?_; refine aRg ?_; intro _; refine dr_XDChk ?_; refine aRt ?_; have j6 := Option.some.inj h; subst j6; replace h := (osum_r hK2); intro _; obtain rfl := inj1 h; exact ca_XDChk
  · rintro _ ho; have ho := ho.symm; subst ho; intro _; replace h := (osum_l hK2); refine aSq ?_; refine aSq ?_; refine aRg ?_; intro _; refine dr_XDChk ?_; refine aCd ?_; intro _; refine spl h (fun c7 h => ?_) (fun c7 h => ?_)
    · refine aSq ?_; refine aRg ?_; intro _; refine dr_XDChk ?_; refine aRt ?_; intro _; obtain rfl := inj1 h; exact ca_XDChk
    · refine aSk ?_; obtain ⟨o8, h, hK9⟩ := ob1_ok h; refine awp_cut (α := Unit) (fun _ => mkS 68 [(1, .ptr 1 0 0 0)] [(1, ⟨29, 2, true, [[.c (.int .i64 a0.Bound), .sl 2 (a0.Nogoods.map cN)]]⟩)]) (fun v => o8 = (.inl v)) ?_ ?_
      · refine aSq ?_; refine aRg ?_; intro _; refine dr_XDChk ?_; refine aBk ?_; refine awp_loop (α := Nat × Int) (fun x => mkS 68 [(1, .ptr 1 0 0 0), (22, .sl 2 (a0.Nogoods.map cN)), (23, .c (.int .i64 ((a0.Nogoods.map cN).length : Int))), (24, .c (.int .i64 x.2))] [(1, ⟨29, 2, true, [[.c (.int .i64 a0.Bound), .sl 2 (a0.Nogoods.map cN)]]⟩)]) (fun x => M_ce_Check_L1 a0 x.1 x.2 = some o8) (fun x => x.1) ((((a0.Nogoods.map cN).length : Int)).toNat + 1, 0) h ?_ ?_
        · exact ca_XDChk
        · intro x10 h; intro _; obtain ⟨k20, m11, h⟩ := succ_of (f := fun n => M_ce_Check_L1 a0 n x10.2) rfl h; replace h : M_ce_Check_L1 a0 (k20 + 1) x10.2 = some o8 := h; rw [M_ce_Check_L1] at h; refine aSq ?_; refine aRg ?_; intro _; refine dr_XDChk ?_; refine aSq ?_; refine aCd ?_; intro _; refine spl h (fun c12 h => ?_) (fun c12 h => ?_)
          · refine aSk ?_; refine aSq ?_; refine aBk ?_; refine aSq ?_; refine aRg ?_; intro _; obtain ⟨y21, w13, q14, h⟩ := ix_ok h; refine Exists.intro (cN y21) (And.intro (map_at' w13) ?_); intro _; refine pr_XDChk ?_; refine dr_XDChk ?_; refine aSq ?_; refine aRg ?_; intro _; obtain ⟨z22, u15, h⟩ := ob1_ok h; refine cl_XDChk rfl (A_ce_formed y21.1 u15) ?_; intro _; refine dr_XDChk ?_; refine aCd ?_; intro _; refine spl h (fun c16 h => ?_) (fun c16 h => ?_)
            · refine aSq ?_; refine aRg ?_; intro _; refine dr_XDChk ?_; refine aRt ?_; have j17 := Option.some.inj h; subst j17; replace h := (osum_r hK9); intro _; obtain rfl := inj1 h; exact ca_XDChk
            · refine aSk ?_; refine aRg ?_; intro _; refine dr_XDChk ?_; refine ⟨(k20, (IntKind.i64.wrap (x10.2 + 1))), h, ltS m11, ?_⟩; exact ca_XDChk
          · refine aEx ?_; refine ⟨(), (Option.some.inj h).symm, ?_⟩; exact ca_XDChk
      · rintro _ ho; have ho := ho.symm; subst ho; intro _; replace h := (osum_l hK9); refine aSq ?_; refine aSq ?_; refine aRg ?_; intro _; refine dr_XDChk ?_; refine aBk ?_; refine awp_loop (α := Nat × Int) (fun x => mkS 68 [(1, .ptr 1 0 0 0), (35, .sl 2 (a0.Nogoods.map cN)), (36, .c (.int .i64 ((a0.Nogoods.map cN).length : Int))), (37, .c (.int .i64 x.2))] [(1, ⟨29, 2, true, [[.c (.int .i64 a0.Bound), .sl 2 (a0.Nogoods.map cN)]]⟩)]) (fun x => M_ce_Check_L2 a0 x.1 x.2 = some r1) (fun x => x.1) ((((a0.Nogoods.map cN).length : Int)).toNat + 1, 0) h ?_ ?_
        · exact ca_XDChk
        · intro x18 h; intro _; obtain ⟨k27, m19, h⟩ := succ_of (f := fun n => M_ce_Check_L2 a0 n x18.2) rfl h; replace h : M_ce_Check_L2 a0 (k27 + 1) x18.2 = some r1 := h; rw [M_ce_Check_L2] at h; refine aSq ?_; refine aRg ?_; intro _; refine dr_XDChk ?_; refine aSq ?_; refine aCd ?_; intro _; refine spl h (fun c20 h => ?_) (fun c20 h => ?_)
          · refine aSk ?_; refine aSq ?_; refine aBk ?_; refine aSq ?_; refine aRg ?_; intro _; obtain ⟨y28, w21, q22, h⟩ := ix_ok h; refine Exists.intro (cN y28) (And.intro (map_at' w21) ?_); intro _; refine pr_XDChk ?_; refine dr_XDChk ?_; refine aSq ?_; refine aRg ?_; intro _; refine spf h (fun c23 h => ?_) (fun c23 h => ?_)
            · intro _; refine spl h (fun c24 h => ?_) (fun c24 h => ?_)
              · intro _; refine spf h (fun c25 h => ?_) (fun c25 h => ?_)
                · intro _; refine spl h (fun c26 h => ?_) (fun c26 h => ?_)
                  · intro _; refine dr_XDChk ?_; refine aCd ?_; intro _; refine spl h (fun c27 h => ?_) (fun c27 h => ?_)
                    · refine aSq ?_; refine aRg ?_; intro _; refine dr_XDChk ?_; refine aRt ?_; intro _; obtain rfl := inj1 h; exact ca_XDChk
                    · refine aSk ?_; refine aRg ?_; intro _; refine dr_XDChk ?_; refine ⟨(k27, (IntKind.i64.wrap (x18.2 + 1))), h, ltS m19, ?_⟩; exact ca_XDChk
                  · intro _; refine dr_XDChk ?_; refine aCd ?_; intro _; refine litF ?_; refine aSk ?_; refine aRg ?_; intro _; refine dr_XDChk ?_; refine ⟨(k27, (IntKind.i64.wrap (x18.2 + 1))), h, ltS m19, ?_⟩; exact ca_XDChk
                · intro _; refine dr_XDChk ?_; refine aCd ?_; intro _; refine litT ?_; refine aSq ?_; refine aRg ?_; intro _; refine dr_XDChk ?_; refine aRt ?_; intro _; obtain rfl := inj1 h; exact ca_XDChk
              · intro _; refine spl h (fun c28 h => ?_) (fun c28 h => ?_)
                · intro _; refine dr_XDChk ?_; refine aCd ?_; intro _; refine spl h (fun c29 h => ?_) (fun c29 h => ?_)
                  · refine aSq ?_; refine aRg ?_; intro _; refine dr_XDChk ?_; refine aRt ?_; intro _; obtain rfl := inj1 h; exact ca_XDChk
                  · refine aSk ?_; refine aRg ?_; intro _; refine dr_XDChk ?_; refine ⟨(k27, (IntKind.i64.wrap (x18.2 + 1))), h, ltS m19, ?_⟩; exact ca_XDChk
                · intro _; refine dr_XDChk ?_; refine aCd ?_; intro _; refine litF ?_; refine aSk ?_; refine aRg ?_; intro _; refine dr_XDChk ?_; refine ⟨(k27, (IntKind.i64.wrap (x18.2 + 1))), h, ltS m19, ?_⟩; exact ca_XDChk
            · intro _; refine dr_XDChk ?_; refine aCd ?_; intro _; refine litT ?_; refine aSq ?_; refine aRg ?_; intro _; refine dr_XDChk ?_; refine aRt ?_; intro _; obtain rfl := inj1 h; exact ca_XDChk
          · refine aEx ?_; refine aSq ?_; refine aRg ?_; intro _; refine dr_XDChk ?_; refine aRt ?_; intro _; obtain rfl := inj1 h; exact ca_XDChk
def M_ce_Proper_L1 (a0 : List Int) (a1 : GCertificate) : Nat → Int → Option (Er)
  | 0, _ => none
  | k9 + 1, v8 =>
    sel (decide (v8 < ((a1.Nogoods.map cN).length : Int)))
     (ix a1.Nogoods v8 (fun y10 =>
       ob1 (M_task_Facts a0 y10.1) (fun z11 =>
        sel (!z11)
         (some (Er.no 2))
         (M_ce_Proper_L1 a0 a1 k9 (IntKind.i64.wrap (v8 + 1))))))
     (some Er.nil)
def M_ce_Proper (a0 : List Int) (a1 : GCertificate) : Option (Er) :=
  ob1 (M_ce_Check a1) (fun z1 =>
   erM z1
    (M_ce_Proper_L1 a0 a1 ((((a1.Nogoods.map cN).length : Int)).toNat + 1) 0)
    (fun e2 => some (Er.no e2)))
set_option maxHeartbeats 16000000 in
set_option maxRecDepth 100000 in
theorem A_ce_Proper (a0 : List Int) (a1 : GCertificate) {r1 : Er} (h : M_ce_Proper a0 a1 = some r1) : ACall cx 34 [.sl 1 (a0.map cI), .agg [.c (.int .i64 a1.Bound), .sl 2 (a1.Nogoods.map cN)]] (eA r1) := by
  refine aOf Tryz.func34 rfl (by decide) rfl (Nat.le_of_ble_eq_true rfl) ?_; intro _; unfold M_ce_Proper at h; refine aSq ?_; refine aRg ?_; intro _; refine dr_XDChk ?_; refine aSq ?_; refine aSq ?_; refine aRg ?_; intro _; obtain ⟨z1, u1, h⟩ := ob1_ok h; refine cl_XDChk rfl (A_ce_Check a1 u1) ?_; intro _; refine dr_XDChk ?_; refine aSq ?_; rcases z1 with _ | e2
  · replace h := erM_nil h; refine aRg ?_; intro _; refine dr_XDChk ?_; refine aCd ?_; intro _; refine litF ?_; refine aSk ?_; refine aSq ?_; refine aSq ?_; refine aRg ?_; intro _; refine dr_XDChk ?_; refine aBk ?_; refine awp_loop (α := Nat × Int) (fun x => mkS 27 [(0, .sl 1 (a0.map cI)), (14, .sl 2 (a1.Nogoods.map cN)), (15, .c (.int .i64 ((a1.Nogoods.map cN).length : Int))), (16, .c (.int .i64 x.2))] []) (fun x => M_ce_Proper_L1 a0 a1 x.1 x.2 = some r1) (fun x => x.1) ((((a1.Nogoods.map cN).length : Int)).toNat + 1, 0) h ?_ ?_
    · exact ca_XDChk
    · intro x2 h; intro _; obtain ⟨k9, m3, h⟩ := succ_of (f := fun n => M_ce_Proper_L1 a0 a1 n x2.2) rfl h; replace h : M_ce_Proper_L1 a0 a1 (k9 + 1) x2.2 = some r1 := h; rw [M_ce_Proper_L1] at h; refine aSq ?_; refine aRg ?_; intro _; refine dr_XDChk ?_; refine aSq ?_; refine aCd ?_; intro _; refine spl h (fun c4 h => ?_) (fun c4 h => ?_)
      · refine aSk ?_; refine aSq ?_; refine aBk ?_; refine aSq ?_; refine aRg ?_; intro _; obtain ⟨y10, w5, q6, h⟩ := ix_ok h; refine Exists.intro (cN y10) (And.intro (map_at' w5) ?_); intro _; refine pr_XDChk ?_; refine dr_XDChk ?_; refine aSq ?_; refine aRg ?_; intro _; obtain ⟨z11, u7, h⟩ := ob1_ok h; refine cl_XDChk rfl (A_task_Facts a0 y10.1 u7) ?_; intro _; refine dr_XDChk ?_; refine aCd ?_; intro _; refine spl h (fun c8 h => ?_) (fun c8 h => ?_)
        · refine aSq ?_; refine aRg ?_; intro _; refine dr_XDChk ?_; refine aRt ?_; intro _; obtain rfl := inj1 h; exact ca_XDChk
        · refine aSk ?_; refine aRg ?_; intro _; refine dr_XDChk ?_; refine ⟨(k9, (IntKind.i64.wrap (x2.2 + 1))), h, ltS m3, ?_⟩; exact ca_XDChk
      · refine aEx ?_; refine aSq ?_; refine aRg ?_; intro _; refine dr_XDChk ?_; refine aRt ?_; intro _; obtain rfl := inj1 h; exact ca_XDChk
  · replace h := erM_no h; refine aRg ?_; intro _; refine dr_XDChk ?_; refine aCd ?_; intro _; refine litT ?_; refine aSq ?_; refine aRg ?_; intro _; refine dr_XDChk ?_; refine aRt ?_; intro _; obtain rfl := inj1 h; exact ca_XDChk
def M_ck_counting_L1 (a0 : GChecker) (a1 : Int) : Nat → Int → (List (List Fact)) → Option (List (List Fact))
  | 0, _, _ => none
  | k7 + 1, v5, v6 =>
    sel (decide (v5 < ((a0.c.Nogoods.map cN).length : Int)))
     (ix a0.c.Nogoods v5 (fun y8 =>
       sel (decide (y8.2 ≤ a1))
        (grd ((v6.length + 1) * 24 ≤ 140737488355328) (M_ck_counting_L1 a0 a1 k7 (IntKind.i64.wrap (v5 + 1)) (v6 ++ [y8.1])))
        (M_ck_counting_L1 a0 a1 k7 (IntKind.i64.wrap (v5 + 1)) v6)))
     (grd (v6.length ≤ 140737488355328) (some v6))
def M_ck_counting (a0 : GChecker) (a1 : Int) : Option (List (List Fact)) :=
  M_ck_counting_L1 a0 a1 ((((a0.c.Nogoods.map cN).length : Int)).toNat + 1) 0 []
set_option maxHeartbeats 16000000 in
set_option maxRecDepth 100000 in
theorem A_ck_counting (a0 : GChecker) (a1 : Int) {r1 : List (List Fact)} (h : M_ck_counting a0 a1 = some r1) : ACallG cx 62 [.ptr 29 0 0 0, .c (.int .i64 a1)] [(29, ⟨73, 7, true, [[.sl 1 (a0.t.Vars.map cI), .sl 1 (a0.t.Init.map cI), .sl 2 (a0.t.Goal.map cF), .sl 4 (a0.t.Ops.map cGOp), .c (.int .i64 a0.c.Bound), .sl 2 (a0.c.Nogoods.map cN), .c (.int .i64 a0.steps)]]⟩)] [29] (.sl 1 (r1.map cL_cF)) [(29, ⟨73, 7, true, [[.sl 1 (a0.t.Vars.map cI), .sl 1 (a0.t.Init.map cI), .sl 2 (a0.t.Goal.map cF), .sl 4 (a0.t.Ops.map cGOp), .c (.int .i64 a0.c.Bound), .sl 2 (a0.c.Nogoods.map cN), .c (.int .i64 a0.steps)]]⟩)] := by
  refine acallg_of 31 Tryz.func62 rfl (by decide) rfl (Nat.le_of_ble_eq_true rfl) rfl rfl ?_; intro _; unfold M_ck_counting at h; refine aSq ?_; refine aRg ?_; intro _; refine dr_XDChk ?_; refine aSq ?_; refine aRg ?_; intro _; refine dr_XDChk ?_; refine aSq ?_; refine aSq ?_; refine aRg ?_; intro _; refine dr_XDChk ?_; refine aBk ?_; refine awp_loop (α := Nat × Int × (List (List Fact))) (fun x => mkG 29 31 [(1, .c (.int .i64 a1)), (5, .own 26 0 0 x.2.2.length), (12, .sl 2 (a0.c.Nogoods.map cN)), (13, .c (.int .i64 ((a0.c.Nogoods.map cN).length : Int))), (14, .c (.int .i64 x.2.1))] [(26, ⟨23, 1, false, x.2.2.map cL_cF⟩), (29, ⟨73, 7, true, [[.sl 1 (a0.t.Vars.map cI), .sl 1 (a0.t.Init.map cI), .sl 2 (a0.t.Goal.map cF), .sl 4 (a0.t.Ops.map cGOp), .c (.int .i64 a0.c.Bound), .sl 2 (a0.c.Nogoods.map cN), .c (.int .i64 a0.steps)]]⟩)]) (fun x => M_ck_counting_L1 a0 a1 x.1 x.2.1 x.2.2 = some r1) (fun x => x.1) ((((a0.c.Nogoods.map cN).length : Int)).toNat + 1, 0, []) h ?_ ?_
  · exact ca_XDChk
  · intro x1 h; intro _; obtain ⟨k7, m2, h⟩ := succ_of (f := fun n => M_ck_counting_L1 a0 a1 n x1.2.1 x1.2.2) rfl h; replace h : M_ck_counting_L1 a0 a1 (k7 + 1) x1.2.1 x1.2.2 = some r1 := h; rw [M_ck_counting_L1] at h; refine aSq ?_; refine aRg ?_; intro _; refine dr_XDChk ?_; refine aSq ?_; refine aCd ?_; intro _; refine spl h (fun c3 h => ?_) (fun c3 h => ?_)
    · refine aSk ?_; refine aSq ?_; refine aBk ?_; refine aSq ?_; refine aRg ?_; intro _; obtain ⟨y8, w4, q5, h⟩ := ix_ok h; refine Exists.intro (cN y8) (And.intro (map_at' w4) ?_); intro _; refine pr_XDChk ?_; refine dr_XDChk ?_; refine aSq ?_; refine aRg ?_; intro _; refine dr_XDChk ?_; refine aCd ?_; intro _; refine spl h (fun c6 h => ?_) (fun c6 h => ?_)
      · refine aRg ?_; intro _; obtain ⟨q7, h⟩ := grd_ok h; refine pl_XDChk ?_; refine pl_XDChk ?_; refine And.intro (by first | assumption | (show (x1.2.2.length + 1) * 24 ≤ 140737488355328; assumption) | omega | (simp; omega)) ?_; refine pe_XDChk ?_; refine dr_XDChk ?_; refine aRg ?_; intro _; refine dr_XDChk ?_; refine ⟨(k7, (IntKind.i64.wrap (x1.2.1 + 1)), (x1.2.2 ++ [y8.1])), h, ltS m2, ?_⟩; exact ca_XDChk
      · refine aSk ?_; refine aRg ?_; intro _; refine dr_XDChk ?_; refine ⟨(k7, (IntKind.i64.wrap (x1.2.1 + 1)), x1.2.2), h, ltS m2, ?_⟩; exact ca_XDChk
    · refine aEx ?_; refine aSq ?_; refine aRg ?_; intro _; refine dr_XDChk ?_; refine aRt ?_; obtain ⟨q8, h⟩ := grd_ok h; intro _; obtain rfl := inj1 h; all_goals (refine Exists.intro [] (And.intro rfl (And.intro ?_ ?_))); all_goals (exact zg_XDChk)
def M_ck_covered (g : Nat) (a0 : GChecker) (a1 : List Fact) (a2 : Int) : Option (Bool × Er × GChecker) :=
  ob1 (M_ck_counting a0 a2) (fun z1 =>
   ob3 (M_p_Covered g a0.t.Vars a1 z1 a0.steps) (fun z2 z3 z4 =>
    erM z4
     (some (z2, Er.nil, { t := a0.t, c := a0.c, steps := (IntKind.i64.wrap (a0.steps - z3)) : GChecker }))
     (fun e5 => some (false, (Er.no e5), a0))))
set_option maxHeartbeats 16000000 in
set_option maxRecDepth 100000 in
theorem A_ck_covered (g : Nat) (a0 : GChecker) (a1 : List Fact) (a2 : Int) {r1 : Bool} {r2 : Er} {r3 : GChecker} (h : M_ck_covered g a0 a1 a2 = some (r1, r2, r3)) : ACallG cx 36 [.ptr 41 0 0 0, .sl 2 (a1.map cF), .c (.int .i64 a2)] [(41, ⟨73, 7, true, [[.sl 1 (a0.t.Vars.map cI), .sl 1 (a0.t.Init.map cI), .sl 2 (a0.t.Goal.map cF), .sl 4 (a0.t.Ops.map cGOp), .c (.int .i64 a0.c.Bound), .sl 2 (a0.c.Nogoods.map cN), .c (.int .i64 a0.steps)]]⟩)] [41] (.tup [.c (.bool r1), eA r2]) [(41, ⟨73, 7, true, [[.sl 1 (r3.t.Vars.map cI), .sl 1 (r3.t.Init.map cI), .sl 2 (r3.t.Goal.map cF), .sl 4 (r3.t.Ops.map cGOp), .c (.int .i64 r3.c.Bound), .sl 2 (r3.c.Nogoods.map cN), .c (.int .i64 r3.steps)]]⟩)] := by
  refine acallg_of 44 Tryz.func36 rfl (by decide) rfl (Nat.le_of_ble_eq_true rfl) rfl rfl ?_; intro _; unfold M_ck_covered at h; refine aSq ?_; refine aRg ?_; intro _; refine dr_XDChk ?_; refine aSq ?_; refine aRg ?_; intro _; obtain ⟨z1, u1, h⟩ := ob1_ok h; refine clk_XDChk [(29, 41)] [(41, ⟨0, some ⟨73, 7, true, [[.sl 1 (a0.t.Vars.map cI), .sl 1 (a0.t.Init.map cI), .sl 2 (a0.t.Goal.map cF), .sl 4 (a0.t.Ops.map cGOp), .c (.int .i64 a0.c.Bound), .sl 2 (a0.c.Nogoods.map cN), .c (.int .i64 a0.steps)]]⟩⟩)] (.sl 1 (z1.map cL_cF)) rfl rfl (A_ck_counting a0 a2 u1) ?_; intro _; obtain ⟨z2, z3, z4, u2, h⟩ := ob3_ok h; refine cl_XDChk rfl (A_p_Covered g a0.t.Vars a1 z1 a0.steps u2) ?_; intro _; refine dr_XDChk ?_; refine aSq ?_; refine aSq ?_; rcases z4 with _ | e5
  · replace h := erM_nil h; refine aRg ?_; intro _; refine dr_XDChk ?_; refine aCd ?_; intro _; refine litF ?_; refine aSk ?_; refine aSq ?_; refine aRg ?_; intro _; refine dr_XDChk ?_; refine aSq ?_; refine aRg ?_; intro _; refine dr_XDChk ?_; refine aRt ?_; intro _; obtain ⟨rfl, rfl, rfl⟩ := inj3 h; all_goals (refine Exists.intro [] (And.intro rfl (And.intro ?_ ?_))); all_goals (exact zg_XDChk)
  · replace h := erM_no h; refine aRg ?_; intro _; refine dr_XDChk ?_; refine aCd ?_; intro _; refine litT ?_; refine aSq ?_; refine aRg ?_; intro _; refine dr_XDChk ?_; refine aRt ?_; intro _; obtain ⟨rfl, rfl, rfl⟩ := inj3 h; all_goals (refine Exists.intro [] (And.intro rfl (And.intro ?_ ?_))); all_goals (exact zg_XDChk)
def M_ck_step_L1 (g : Nat) (v2 : Int) (z7 : List (List Fact)) : Nat → Int → (List Int) → (List Int) → (List Fact) → (List GOp) → Int → (List Nogood) → Int → Option (Er × GChecker)
  | 0, _, _, _, _, _, _, _, _ => none
  | k36 + 1, v28, v29, v30, v31, v32, v33, v34, v35 =>
    sel (decide (v28 < ((z7.map cL_cF).length : Int)))
     (ix z7 v28 (fun y37 =>
       ob3 (M_ck_covered g ({ t := { Vars := v29, Init := v30, Goal := v31, Ops := v32 : GTask }, c := { Bound := v33, Nogoods := v34 : GCertificate }, steps := v35 : GChecker }) y37 v2) (fun z38 z39 c40 =>
        erM z39
         (sel (!z38)
           (some ((Er.no 19), c40))
           (M_ck_step_L1 g v2 z7 k36 (IntKind.i64.wrap (v28 + 1)) c40.t.Vars c40.t.Init c40.t.Goal c40.t.Ops c40.c.Bound c40.c.Nogoods c40.steps))
         (fun e41 => some ((Er.no e41), c40)))))
     (some (Er.nil, { t := { Vars := v29, Init := v30, Goal := v31, Ops := v32 : GTask }, c := { Bound := v33, Nogoods := v34 : GCertificate }, steps := v35 : GChecker }))
def M_ck_step (g : Nat) (a0 : GChecker) (a1 : Nogood) (a2 : Int) : Option (Er × GChecker) :=
  ob1 (sel (decide (a0.c.Bound ≥ 0))
    (ix a0.t.Ops a2 (fun y6 =>
      sel (decide ((IntKind.i64.wrap (a1.2 + y6.Cost)) ≥ a0.c.Bound))
       (some (.inr (Er.nil, a0)))
       (some (.inl (IntKind.i64.wrap (a1.2 + y6.Cost))))))
    (some (.inl 0)) : Option (Int ⊕ (Er × GChecker)))
   (osum
   (fun v2 => ob2 (M_g_Regress g a0.t a2 a1.1) (fun z7 z8 =>
      erM z8
       (M_ck_step_L1 g v2 z7 ((((z7.map cL_cF).length : Int)).toNat + 1) 0 a0.t.Vars a0.t.Init a0.t.Goal a0.t.Ops a0.c.Bound a0.c.Nogoods a0.steps)
       (fun e9 => some ((Er.no e9), a0))))
   (fun (r3, r4) => some (r3, r4)))
set_option maxHeartbeats 16000000 in
set_option maxRecDepth 100000 in
theorem A_ck_step (g : Nat) (a0 : GChecker) (a1 : Nogood) (a2 : Int) {r1 : Er} {r2 : GChecker} (h : M_ck_step g a0 a1 a2 = some (r1, r2)) : ACallG cx 37 [.ptr 73 0 0 0, .agg [.sl 2 (a1.1.map cF), .c (.int .i64 a1.2)], .c (.int .i64 a2)] [(73, ⟨73, 7, true, [[.sl 1 (a0.t.Vars.map cI), .sl 1 (a0.t.Init.map cI), .sl 2 (a0.t.Goal.map cF), .sl 4 (a0.t.Ops.map cGOp), .c (.int .i64 a0.c.Bound), .sl 2 (a0.c.Nogoods.map cN), .c (.int .i64 a0.steps)]]⟩)] [73] (eA r1) [(73, ⟨73, 7, true, [[.sl 1 (r2.t.Vars.map cI), .sl 1 (r2.t.Init.map cI), .sl 2 (r2.t.Goal.map cF), .sl 4 (r2.t.Ops.map cGOp), .c (.int .i64 r2.c.Bound), .sl 2 (r2.c.Nogoods.map cN), .c (.int .i64 r2.steps)]]⟩)] := by
  refine acallg_of 76 Tryz.func37 rfl (by decide) rfl (Nat.le_of_ble_eq_true rfl) rfl rfl ?_; intro _; unfold M_ck_step at h; refine aSq ?_; refine aRg ?_; intro _; refine dr_XDChk ?_; refine aSq ?_; refine aRg ?_; intro _; refine dr_XDChk ?_; obtain ⟨o1, h, hK2⟩ := ob1_ok h; refine awp_cut (α := Int) (fun v2 => mkG 73 76 [(0, .ptr 73 0 0 0), (2, .c (.int .i64 a2)), (4, .ptr 4 0 0 0), (7, .c (.int .i64 v2))] [(4, ⟨51, 2, true, [[.sl 2 (a1.1.map cF), .c (.int .i64 a1.2)]]⟩), (73, ⟨73, 7, true, [[.sl 1 (a0.t.Vars.map cI), .sl 1 (a0.t.Init.map cI), .sl 2 (a0.t.Goal.map cF), .sl 4 (a0.t.Ops.map cGOp), .c (.int .i64 a0.c.Bound), .sl 2 (a0.c.Nogoods.map cN), .c (.int .i64 a0.steps)]]⟩)]) (fun v => o1 = (.inl v)) ?_ ?_
  · refine aSq ?_; refine aRg ?_; intro _; refine dr_XDChk ?_; refine aCd ?_; intro _; refine spl h (fun c3 h => ?_) (fun c3 h => ?_)
    · refine aSq ?_; refine aRg ?_; intro _; obtain ⟨y6, w4, q5, h⟩ := ix_ok h; refine Exists.intro (cGOp y6) (And.intro (map_at' w4) ?_); intro _; refine pr_XDChk ?_; refine dr_XDChk ?_; refine aSq ?_; refine aRg ?_; intro _; refine dr_XDChk ?_; refine aCd ?_; intro _; refine spl h (fun c6 h => ?_) (fun c6 h => ?_)
      · refine aSq ?_; refine aRg ?_; intro _; refine dr_XDChk ?_; refine aRt ?_; have j7 := Option.some.inj h; subst j7; replace h := (osum_r hK2); intro _; obtain ⟨rfl, rfl⟩ := inj2 h; all_goals (refine Exists.intro [] (And.intro rfl (And.intro ?_ ?_))); all_goals (exact zg_XDChk)
      · refine aSk ?_; refine ⟨(IntKind.i64.wrap (a1.2 + y6.Cost)), (Option.some.inj h).symm, ?_⟩; exact ca_XDChk
    · refine aSk ?_; refine ⟨0, (Option.some.inj h).symm, ?_⟩; exact ca_XDChk
  · rintro v2 ho; have ho := ho.symm; subst ho; intro _; replace h := (osum_l hK2); refine aSq ?_; refine aRg ?_; intro _; obtain ⟨z7, z8, u8, h⟩ := ob2_ok h; refine cl_XDChk rfl (A_g_Regress g a0.t a2 a1.1 u8) ?_; intro _; refine dr_XDChk ?_; refine aSq ?_; refine aSq ?_; rcases z8 with _ | e9
    · replace h := erM_nil h; refine aRg ?_; intro _; refine dr_XDChk ?_; refine aCd ?_; intro _; refine litF ?_; refine aSk ?_; refine aSq ?_; refine aSq ?_; refine aRg ?_; intro _; refine dr_XDChk ?_; refine aBk ?_; refine awp_loop (α := Nat × Int × (List Int) × (List Int) × (List Fact) × (List GOp) × Int × (List Nogood) × Int) (fun x => mkG 73 76 [(0, .ptr 73 0 0 0), (7, .c (.int .i64 v2)), (53, .sl 1 (z7.map cL_cF)), (54, .c (.int .i64 ((z7.map cL_cF).length : Int))), (55, .c (.int .i64 x.2.1))] [(73, ⟨73, 7, true, [[.sl 1 (x.2.2.1.map cI), .sl 1 (x.2.2.2.1.map cI), .sl 2 (x.2.2.2.2.1.map cF), .sl 4 (x.2.2.2.2.2.1.map cGOp), .c (.int .i64 x.2.2.2.2.2.2.1), .sl 2 (x.2.2.2.2.2.2.2.1.map cN), .c (.int .i64 x.2.2.2.2.2.2.2.2)]]⟩)]) (fun x => M_ck_step_L1 g v2 z7 x.1 x.2.1 x.2.2.1 x.2.2.2.1 x.2.2.2.2.1 x.2.2.2.2.2.1 x.2.2.2.2.2.2.1 x.2.2.2.2.2.2.2.1 x.2.2.2.2.2.2.2.2 = some (r1, r2)) (fun x => x.1) ((((z7.map cL_cF).length : Int)).toNat + 1, 0, a0.t.Vars, a0.t.Init, a0.t.Goal, a0.t.Ops, a0.c.Bound, a0.c.Nogoods, a0.steps) h ?_ ?_
      · exact ca_XDChk
      · intro x9 h; intro _; obtain ⟨k36, m10, h⟩ := succ_of (f := fun n => M_ck_step_L1 g v2 z7 n x9.2.1 x9.2.2.1 x9.2.2.2.1 x9.2.2.2.2.1 x9.2.2.2.2.2.1 x9.2.2.2.2.2.2.1 x9.2.2.2.2.2.2.2.1 x9.2.2.2.2.2.2.2.2) rfl h; replace h : M_ck_step_L1 g v2 z7 (k36 + 1) x9.2.1 x9.2.2.1 x9.2.2.2.1 x9.2.2.2.2.1 x9.2.2.2.2.2.1 x9.2.2.2.2.2.2.1 x9.2.2.2.2.2.2.2.1 x9.2.2.2.2.2.2.2.2 = some (r1, r2) := h; rw [M_ck_step_L1] at h; refine aSq ?_; refine aRg ?_; intro _; refine dr_XDChk ?_; refine aSq ?_; refine aCd ?_; intro _; refine spl h (fun c11 h => ?_) (fun c11 h => ?_)
        · refine aSk ?_; refine aSq ?_; refine aBk ?_; refine aSq ?_; refine aRg ?_; intro _; obtain ⟨y37, w12, q13, h⟩ := ix_ok h; refine Exists.intro (cL_cF y37) (And.intro (map_at' w12) ?_); intro _; refine pr_XDChk ?_; refine dr_XDChk ?_; refine aSq ?_; refine aRg ?_; intro _; obtain ⟨z38, z39, c40, u14, h⟩ := ob3_ok h; refine clg_XDChk [(41, 73)] [] [] [(73, ⟨0, some ⟨73, 7, true, [[.sl 1 (c40.t.Vars.map cI), .sl 1 (c40.t.Init.map cI), .sl 2 (c40.t.Goal.map cF), .sl 4 (c40.t.Ops.map cGOp), .c (.int .i64 c40.c.Bound), .sl 2 (c40.c.Nogoods.map cN), .c (.int .i64 c40.steps)]]⟩⟩)] (.tup [.c (.bool z38), eA z39]) rfl rfl (A_ck_covered g ({ t := { Vars := x9.2.2.1, Init := x9.2.2.2.1, Goal := x9.2.2.2.2.1, Ops := x9.2.2.2.2.2.1 : GTask }, c := { Bound := x9.2.2.2.2.2.2.1, Nogoods := x9.2.2.2.2.2.2.2.1 : GCertificate }, steps := x9.2.2.2.2.2.2.2.2 : GChecker }) y37 v2 u14) ?_; intro _; refine dr_XDChk ?_; refine aSq ?_; refine aSq ?_; rcases z39 with _ | e41
          · replace h := erM_nil h; refine aRg ?_; intro _; refine dr_XDChk ?_; refine aCd ?_; intro _; refine litF ?_; refine aSk ?_; refine aSq ?_; refine aRg ?_; intro _; refine dr_XDChk ?_; refine aCd ?_; intro _; refine spl h (fun c15 h => ?_) (fun c15 h => ?_)
            · refine aSq ?_; refine aRg ?_; intro _; refine dr_XDChk ?_; refine aRt ?_; intro _; obtain ⟨rfl, rfl⟩ := inj2 h; all_goals (refine Exists.intro [] (And.intro rfl (And.intro ?_ ?_))); all_goals (exact zg_XDChk)
            · refine aSk ?_; refine aRg ?_; intro _; refine dr_XDChk ?_; refine ⟨(k36, (IntKind.i64.wrap (x9.2.1 + 1)), c40.t.Vars, c40.t.Init, c40.t.Goal, c40.t.Ops, c40.c.Bound, c40.c.Nogoods, c40.steps), h, ltS m10, ?_⟩; exact ca_XDChk
          · replace h := erM_no h; refine aRg ?_; intro _; refine dr_XDChk ?_; refine aCd ?_; intro _; refine litT ?_; refine aSq ?_; refine aRg ?_; intro _; refine dr_XDChk ?_; refine aRt ?_; intro _; obtain ⟨rfl, rfl⟩ := inj2 h; all_goals (refine Exists.intro [] (And.intro rfl (And.intro ?_ ?_))); all_goals (exact zg_XDChk)
        · refine aEx ?_; refine aSq ?_; refine aRg ?_; intro _; refine dr_XDChk ?_; refine aRt ?_; intro _; obtain ⟨rfl, rfl⟩ := inj2 h; all_goals (refine Exists.intro [] (And.intro rfl (And.intro ?_ ?_))); all_goals (exact zg_XDChk)
    · replace h := erM_no h; refine aRg ?_; intro _; refine dr_XDChk ?_; refine aCd ?_; intro _; refine litT ?_; refine aSq ?_; refine aRg ?_; intro _; refine dr_XDChk ?_; refine aRt ?_; intro _; obtain ⟨rfl, rfl⟩ := inj2 h; all_goals (refine Exists.intro [] (And.intro rfl (And.intro ?_ ?_))); all_goals (exact zg_XDChk)
def M_checker_Where_L1 (a0 : GTask) (a1 : GCertificate) : Nat → Int → Option (Unit ⊕ (Int × Int × Er))
  | 0, _ => none
  | k24 + 1, v23 =>
    sel (decide (v23 < ((a1.Nogoods.map cN).length : Int)))
     (ix a1.Nogoods v23 (fun y25 =>
       ob1 (M_task_Holds y25.1 a0.Init) (fun z26 =>
        sel z26
         (some (.inr ((-1), (-1), (Er.no 20))))
         (M_checker_Where_L1 a0 a1 k24 (IntKind.i64.wrap (v23 + 1))))))
     (some (.inl ()))
def M_checker_Where_L2 (a0 : GTask) (g : Nat) (v184 : Int) (y231 : Nogood) : Nat → Int → (List Int) → (List Int) → (List Fact) → (List GOp) → Int → (List Nogood) → Int → Option (((List Int) × (List Int) × (List Fact) × (List GOp) × Int × (List Nogood) × Int) ⊕ (Int × Int × Er))
  | 0, _, _, _, _, _, _, _, _ => none
  | k254 + 1, v246, v247, v248, v249, v250, v251, v252, v253 =>
    sel (decide (v246 < ((a0.Ops.map cGOp).length : Int)))
     (ob2 (M_ck_step g ({ t := { Vars := v247, Init := v248, Goal := v249, Ops := v250 : GTask }, c := { Bound := v251, Nogoods := v252 : GCertificate }, steps := v253 : GChecker }) y231 v246) (fun z255 c256 =>
       erM z255
        (M_checker_Where_L2 a0 g v184 y231 k254 (IntKind.i64.wrap (v246 + 1)) c256.t.Vars c256.t.Init c256.t.Goal c256.t.Ops c256.c.Bound c256.c.Nogoods c256.steps)
        (fun e257 => some (.inr (v184, v246, (Er.no e257))))))
     (some (.inl (v247, v248, v249, v250, v251, v252, v253)))
def M_checker_Where_L3 (a0 : GTask) (a1 : GCertificate) (g : Nat) : Nat → Int → (List Int) → (List Int) → (List Fact) → (List GOp) → Int → (List Nogood) → Int → Option (Int × Int × Er)
  | 0, _, _, _, _, _, _, _, _ => none
  | k192 + 1, v184, v185, v186, v187, v188, v189, v190, v191 =>
    sel (decide (v184 < ((a1.Nogoods.map cN).length : Int)))
     (ob1 (ix a1.Nogoods v184 (fun y231 =>
        M_checker_Where_L2 a0 g v184 y231 ((((a0.Ops.map cGOp).length : Int)).toNat + 1) 0 v185 v186 v187 v188 v189 v190 v191) : Option (((List Int) × (List Int) × (List Fact) × (List GOp) × Int × (List Nogood) × Int) ⊕ (Int × Int × Er)))
       (osum
       (fun (v220, v221, v222, v223, v224, v225, v226) => M_checker_Where_L3 a0 a1 g k192 (IntKind.i64.wrap (v184 + 1)) v220 v221 v222 v223 v224 v225 v226)
       (fun (r227, r228, r229) => some (r227, r228, r229))))
     (some ((-1), (-1), Er.nil))
def M_checker_Where (g : Nat) (a0 : GTask) (a1 : GCertificate) (a2 : Int) : Option (Int × Int × Er) :=
  ob1 (M_task_Check a0) (fun z1 =>
   erM z1
    (ob1 (M_ce_Proper a0.Vars a1) (fun z3 =>
      erM z3
       (ob1 (M_checker_Where_L1 a0 a1 ((((a1.Nogoods.map cN).length : Int)).toNat + 1) 0 : Option (Unit ⊕ (Int × Int × Er)))
         (osum
         (fun _ => ob1 (sel (a1.Bound != 0)
             (ob3 (M_ck_covered g ({ t := a0, c := a1, steps := (max 0 (min a2 1048576)) : GChecker }) a0.Goal 0) (fun z42 z43 c44 =>
               erM z43
                (sel (!z42)
                  (some (.inr ((-1), (-1), (Er.no 13))))
                  (some (.inl (c44.t.Vars, c44.t.Init, c44.t.Goal, c44.t.Ops, c44.c.Bound, c44.c.Nogoods, c44.steps))))
                (fun e45 => some (.inr ((-1), (-1), (Er.no e45))))))
             (some (.inl (a0.Vars, a0.Init, a0.Goal, a0.Ops, a1.Bound, a1.Nogoods, (max 0 (min a2 1048576))))) : Option (((List Int) × (List Int) × (List Fact) × (List GOp) × Int × (List Nogood) × Int) ⊕ (Int × Int × Er)))
            (osum
            (fun (v31, v32, v33, v34, v35, v36, v37) => M_checker_Where_L3 a0 a1 g ((((a1.Nogoods.map cN).length : Int)).toNat + 1) 0 v31 v32 v33 v34 v35 v36 v37)
            (fun (r38, r39, r40) => some (r38, r39, r40))))
         (fun (r14, r15, r16) => some (r14, r15, r16))))
       (fun e4 => some ((-1), (-1), (Er.no e4)))))
    (fun e2 => some ((-1), (-1), (Er.no e2))))
set_option maxHeartbeats 16000000 in
set_option maxRecDepth 100000 in
theorem A_checker_Where (g : Nat) (a0 : GTask) (a1 : GCertificate) (a2 : Int) {r1 : Int} {r2 : Int} {r3 : Er} (h : M_checker_Where g a0 a1 a2 = some (r1, r2, r3)) : ACall cx 14 [.agg [.sl 1 (a0.Vars.map cI), .sl 1 (a0.Init.map cI), .sl 2 (a0.Goal.map cF), .sl 4 (a0.Ops.map cGOp)], .agg [.c (.int .i64 a1.Bound), .sl 2 (a1.Nogoods.map cN)], .c (.int .i64 a2)] (.tup [.c (.int .i64 r1), .c (.int .i64 r2), eA r3]) := by
  refine aOf Tryz.func14 rfl (by decide) rfl (Nat.le_of_ble_eq_true rfl) ?_; intro _; unfold M_checker_Where at h; refine aSq ?_; refine aRg ?_; intro _; refine dr_XDChk ?_; refine aSq ?_; refine aSq ?_; refine aRg ?_; intro _; obtain ⟨z1, u1, h⟩ := ob1_ok h; refine cl_XDChk rfl (A_task_Check a0 u1) ?_; intro _; refine dr_XDChk ?_; refine aSq ?_; rcases z1 with _ | e2
  · replace h := erM_nil h; refine aRg ?_; intro _; refine dr_XDChk ?_; refine aCd ?_; intro _; refine litF ?_; refine aSk ?_; refine aSq ?_; refine aSq ?_; refine aRg ?_; intro _; obtain ⟨z3, u2, h⟩ := ob1_ok h; refine cl_XDChk rfl (A_ce_Proper a0.Vars a1 u2) ?_; intro _; refine dr_XDChk ?_; refine aSq ?_; rcases z3 with _ | e4
    · replace h := erM_nil h; refine aRg ?_; intro _; refine dr_XDChk ?_; refine aCd ?_; intro _; refine litF ?_; refine aSk ?_; obtain ⟨o3, h, hK4⟩ := ob1_ok h; refine awp_cut (α := Unit) (fun _ => mkS 94 [(2, .c (.int .i64 a2)), (3, .ptr 3 0 0 0), (4, .ptr 4 0 0 0)] [(3, ⟨26, 4, true, [[.sl 1 (a0.Vars.map cI), .sl 1 (a0.Init.map cI), .sl 2 (a0.Goal.map cF), .sl 4 (a0.Ops.map cGOp)]]⟩), (4, ⟨29, 2, true, [[.c (.int .i64 a1.Bound), .sl 2 (a1.Nogoods.map cN)]]⟩)]) (fun v => o3 = (.inl v)) ?_ ?_
      · refine aSq ?_; refine aRg ?_; intro _; refine dr_XDChk ?_; refine aBk ?_; refine awp_loop (α := Nat × Int) (fun x => mkS 94 [(2, .c (.int .i64 a2)), (3, .ptr 3 0 0 0), (4, .ptr 4 0 0 0), (33, .sl 2 (a1.Nogoods.map cN)), (34, .c (.int .i64 ((a1.Nogoods.map cN).length : Int))), (35, .c (.int .i64 x.2))] [(3, ⟨26, 4, true, [[.sl 1 (a0.Vars.map cI), .sl 1 (a0.Init.map cI), .sl 2 (a0.Goal.map cF), .sl 4 (a0.Ops.map cGOp)]]⟩), (4, ⟨29, 2, true, [[.c (.int .i64 a1.Bound), .sl 2 (a1.Nogoods.map cN)]]⟩)]) (fun x => M_checker_Where_L1 a0 a1 x.1 x.2 = some o3) (fun x => x.1) ((((a1.Nogoods.map cN).length : Int)).toNat + 1, 0) h ?_ ?_
        · exact ca_XDChk
        · intro x5 h; intro _; obtain ⟨k24, m6, h⟩ := succ_of (f := fun n => M_checker_Where_L1 a0 a1 n x5.2) rfl h; replace h : M_checker_Where_L1 a0 a1 (k24 + 1) x5.2 = some o3 := h; rw [M_checker_Where_L1] at h; refine aSq ?_; refine aRg ?_; intro _; refine dr_XDChk ?_; refine aSq ?_; refine aCd ?_; intro _; refine spl h (fun c7 h => ?_) (fun c7 h => ?_)
          · refine aSk ?_; refine aSq ?_; refine aBk ?_; refine aSq ?_; refine aRg ?_; intro _; obtain ⟨y25, w8, q9, h⟩ := ix_ok h; refine Exists.intro (cN y25) (And.intro (map_at' w8) ?_); intro _; refine pr_XDChk ?_; refine dr_XDChk ?_; refine aSq ?_; refine aRg ?_; intro _; obtain ⟨z26, u10, h⟩ := ob1_ok h; refine cl_XDChk rfl (A_task_Holds y25.1 a0.Init u10) ?_; intro _; refine dr_XDChk ?_; refine aCd ?_; intro _; refine spl h (fun c11 h => ?_) (fun c11 h => ?_)
            · refine aSq ?_; refine aRg ?_; intro _; refine dr_XDChk ?_; refine aRt ?_; have j12 := Option.some.inj h; subst j12; replace h := (osum_r hK4); intro _; obtain ⟨rfl, rfl, rfl⟩ := inj3 h; exact ca_XDChk
            · refine aSk ?_; refine aRg ?_; intro _; refine dr_XDChk ?_; refine ⟨(k24, (IntKind.i64.wrap (x5.2 + 1))), h, ltS m6, ?_⟩; exact ca_XDChk
          · refine aEx ?_; refine ⟨(), (Option.some.inj h).symm, ?_⟩; exact ca_XDChk
      · rintro _ ho; have ho := ho.symm; subst ho; intro _; replace h := (osum_l hK4); refine aSq ?_; refine aRg ?_; intro _; refine ⟨_, lf_min rfl (Nat.le_of_ble_eq_true rfl) rfl rfl, ?_⟩; intro _; refine ⟨_, lf_max rfl (Nat.le_of_ble_eq_true rfl) rfl rfl, ?_⟩; intro _; refine dr_XDChk ?_; obtain ⟨o13, h, hK14⟩ := ob1_ok h; refine awp_cut (α := (List Int) × (List Int) × (List Fact) × (List GOp) × Int × (List Nogood) × Int) (fun (v31, v32, v33, v34, v35, v36, v37) => mkS 94 [(3, .ptr 3 0 0 0), (4, .ptr 4 0 0 0), (13, .ptr 52 0 0 0)] [(3, ⟨26, 4, true, [[.sl 1 (a0.Vars.map cI), .sl 1 (a0.Init.map cI), .sl 2 (a0.Goal.map cF), .sl 4 (a0.Ops.map cGOp)]]⟩), (4, ⟨29, 2, true, [[.c (.int .i64 a1.Bound), .sl 2 (a1.Nogoods.map cN)]]⟩), (52, ⟨73, 7, true, [[.sl 1 (v31.map cI), .sl 1 (v32.map cI), .sl 2 (v33.map cF), .sl 4 (v34.map cGOp), .c (.int .i64 v35), .sl 2 (v36.map cN), .c (.int .i64 v37)]]⟩)]) (fun v => o13 = (.inl v)) ?_ ?_
        · refine aSq ?_; refine aRg ?_; intro _; refine dr_XDChk ?_; refine aCd ?_; intro _; refine spl h (fun c15 h => ?_) (fun c15 h => ?_)
          · refine aSq ?_; refine aRg ?_; intro _; obtain ⟨z42, z43, c44, u16, h⟩ := ob3_ok h; refine clg_XDChk [(41, 52)] [] [] [(52, ⟨1, some ⟨73, 7, true, [[.sl 1 (c44.t.Vars.map cI), .sl 1 (c44.t.Init.map cI), .sl 2 (c44.t.Goal.map cF), .sl 4 (c44.t.Ops.map cGOp), .c (.int .i64 c44.c.Bound), .sl 2 (c44.c.Nogoods.map cN), .c (.int .i64 c44.steps)]]⟩⟩)] (.tup [.c (.bool z42), eA z43]) rfl rfl (A_ck_covered g ({ t := a0, c := a1, steps := (max 0 (min a2 1048576)) : GChecker }) a0.Goal 0 u16) ?_; intro _; refine dr_XDChk ?_; refine aSq ?_; refine aSq ?_; rcases z43 with _ | e45
            · replace h := erM_nil h; refine aRg ?_; intro _; refine dr_XDChk ?_; refine aCd ?_; intro _; refine litF ?_; refine aSk ?_; refine aSq ?_; refine aRg ?_; intro _; refine dr_XDChk ?_; refine aCd ?_; intro _; refine spl h (fun c17 h => ?_) (fun c17 h => ?_)
              · refine aSq ?_; refine aRg ?_; intro _; refine dr_XDChk ?_; refine aRt ?_; have j18 := Option.some.inj h; subst j18; replace h := (osum_r hK14); intro _; obtain ⟨rfl, rfl, rfl⟩ := inj3 h; exact ca_XDChk
              · refine aSk ?_; refine ⟨(c44.t.Vars, c44.t.Init, c44.t.Goal, c44.t.Ops, c44.c.Bound, c44.c.Nogoods, c44.steps), (Option.some.inj h).symm, ?_⟩; exact ca_XDChk
            · replace h := erM_no h; refine aRg ?_; intro _; refine dr_XDChk ?_; refine aCd ?_; intro _; refine litT ?_; refine aSq ?_; refine aRg ?_; intro _; refine dr_XDChk ?_; refine aRt ?_; have j19 := Option.some.inj h; subst j19; replace h := (osum_r hK14); intro _; obtain ⟨rfl, rfl, rfl⟩ := inj3 h; exact ca_XDChk
          · refine aSk ?_; refine ⟨(a0.Vars, a0.Init, a0.Goal, a0.Ops, a1.Bound, a1.Nogoods, (max 0 (min a2 1048576))), (Option.some.inj h).symm, ?_⟩; exact ca_XDChk
        · rintro ⟨v31, v32, v33, v34, v35, v36, v37⟩ ho; have ho := ho.symm; subst ho; intro _; replace h := (osum_l hK14); refine aSq ?_; refine aSq ?_; refine aRg ?_; intro _; refine dr_XDChk ?_; refine aBk ?_; refine awp_loop (α := Nat × Int × (List Int) × (List Int) × (List Fact) × (List GOp) × Int × (List Nogood) × Int) (fun x => mkS 94 [(3, .ptr 3 0 0 0), (13, .ptr 52 0 0 0), (70, .sl 2 (a1.Nogoods.map cN)), (71, .c (.int .i64 ((a1.Nogoods.map cN).length : Int))), (72, .c (.int .i64 x.2.1))] [(3, ⟨26, 4, true, [[.sl 1 (a0.Vars.map cI), .sl 1 (a0.Init.map cI), .sl 2 (a0.Goal.map cF), .sl 4 (a0.Ops.map cGOp)]]⟩), (52, ⟨73, 7, true, [[.sl 1 (x.2.2.1.map cI), .sl 1 (x.2.2.2.1.map cI), .sl 2 (x.2.2.2.2.1.map cF), .sl 4 (x.2.2.2.2.2.1.map cGOp), .c (.int .i64 x.2.2.2.2.2.2.1), .sl 2 (x.2.2.2.2.2.2.2.1.map cN), .c (.int .i64 x.2.2.2.2.2.2.2.2)]]⟩)]) (fun x => M_checker_Where_L3 a0 a1 g x.1 x.2.1 x.2.2.1 x.2.2.2.1 x.2.2.2.2.1 x.2.2.2.2.2.1 x.2.2.2.2.2.2.1 x.2.2.2.2.2.2.2.1 x.2.2.2.2.2.2.2.2 = some (r1, r2, r3)) (fun x => x.1) ((((a1.Nogoods.map cN).length : Int)).toNat + 1, 0, v31, v32, v33, v34, v35, v36, v37) h ?_ ?_
          · exact ca_XDChk
          · intro x20 h; intro _; obtain ⟨k192, m21, h⟩ := succ_of (f := fun n => M_checker_Where_L3 a0 a1 g n x20.2.1 x20.2.2.1 x20.2.2.2.1 x20.2.2.2.2.1 x20.2.2.2.2.2.1 x20.2.2.2.2.2.2.1 x20.2.2.2.2.2.2.2.1 x20.2.2.2.2.2.2.2.2) rfl h; replace h : M_checker_Where_L3 a0 a1 g (k192 + 1) x20.2.1 x20.2.2.1 x20.2.2.2.1 x20.2.2.2.2.1 x20.2.2.2.2.2.1 x20.2.2.2.2.2.2.1 x20.2.2.2.2.2.2.2.1 x20.2.2.2.2.2.2.2.2 = some (r1, r2, r3) := h; rw [M_checker_Where_L3] at h; refine aSq ?_; refine aRg ?_; intro _; refine dr_XDChk ?_; refine aSq ?_; refine aCd ?_; intro _; refine spl h (fun c22 h => ?_) (fun c22 h => ?_)
            · refine aSk ?_; obtain ⟨o23, h, hK24⟩ := ob1_ok h; refine awp_cut (α := (List Int) × (List Int) × (List Fact) × (List GOp) × Int × (List Nogood) × Int) (fun (v220, v221, v222, v223, v224, v225, v226) => mkS 94 [(3, .ptr 3 0 0 0), (13, .ptr 52 0 0 0), (70, .sl 2 (a1.Nogoods.map cN)), (71, .c (.int .i64 ((a1.Nogoods.map cN).length : Int))), (72, .c (.int .i64 x20.2.1))] [(3, ⟨26, 4, true, [[.sl 1 (a0.Vars.map cI), .sl 1 (a0.Init.map cI), .sl 2 (a0.Goal.map cF), .sl 4 (a0.Ops.map cGOp)]]⟩), (52, ⟨73, 7, true, [[.sl 1 (v220.map cI), .sl 1 (v221.map cI), .sl 2 (v222.map cF), .sl 4 (v223.map cGOp), .c (.int .i64 v224), .sl 2 (v225.map cN), .c (.int .i64 v226)]]⟩)]) (fun v => o23 = (.inl v)) ?_ ?_
              · refine aBk ?_; refine aSq ?_; refine aRg ?_; intro _; obtain ⟨y231, w25, q26, h⟩ := ix_ok h; refine Exists.intro (cN y231) (And.intro (map_at' w25) ?_); intro _; refine pr_XDChk ?_; refine dr_XDChk ?_; refine aSq ?_; refine aRg ?_; intro _; refine dr_XDChk ?_; refine aBk ?_; refine awp_loop (α := Nat × Int × (List Int) × (List Int) × (List Fact) × (List GOp) × Int × (List Nogood) × Int) (fun x => mkS 94 [(3, .ptr 3 0 0 0), (13, .ptr 52 0 0 0), (16, .c (.int .i64 x20.2.1)), (17, .ptr 17 0 0 0), (70, .sl 2 (a1.Nogoods.map cN)), (71, .c (.int .i64 ((a1.Nogoods.map cN).length : Int))), (72, .c (.int .i64 x20.2.1)), (79, .c (.int .i64 ((a0.Ops.map cGOp).length : Int))), (80, .c (.int .i64 x.2.1))] [(3, ⟨26, 4, true, [[.sl 1 (a0.Vars.map cI), .sl 1 (a0.Init.map cI), .sl 2 (a0.Goal.map cF), .sl 4 (a0.Ops.map cGOp)]]⟩), (17, ⟨51, 2, true, [[.sl 2 (y231.1.map cF), .c (.int .i64 y231.2)]]⟩), (52, ⟨73, 7, true, [[.sl 1 (x.2.2.1.map cI), .sl 1 (x.2.2.2.1.map cI), .sl 2 (x.2.2.2.2.1.map cF), .sl 4 (x.2.2.2.2.2.1.map cGOp), .c (.int .i64 x.2.2.2.2.2.2.1), .sl 2 (x.2.2.2.2.2.2.2.1.map cN), .c (.int .i64 x.2.2.2.2.2.2.2.2)]]⟩)]) (fun x => M_checker_Where_L2 a0 g x20.2.1 y231 x.1 x.2.1 x.2.2.1 x.2.2.2.1 x.2.2.2.2.1 x.2.2.2.2.2.1 x.2.2.2.2.2.2.1 x.2.2.2.2.2.2.2.1 x.2.2.2.2.2.2.2.2 = some o23) (fun x => x.1) ((((a0.Ops.map cGOp).length : Int)).toNat + 1, 0, x20.2.2.1, x20.2.2.2.1, x20.2.2.2.2.1, x20.2.2.2.2.2.1, x20.2.2.2.2.2.2.1, x20.2.2.2.2.2.2.2.1, x20.2.2.2.2.2.2.2.2) h ?_ ?_
                · exact ca_XDChk
                · intro x27 h; intro _; obtain ⟨k254, m28, h⟩ := succ_of (f := fun n => M_checker_Where_L2 a0 g x20.2.1 y231 n x27.2.1 x27.2.2.1 x27.2.2.2.1 x27.2.2.2.2.1 x27.2.2.2.2.2.1 x27.2.2.2.2.2.2.1 x27.2.2.2.2.2.2.2.1 x27.2.2.2.2.2.2.2.2) rfl h; replace h : M_checker_Where_L2 a0 g x20.2.1 y231 (k254 + 1) x27.2.1 x27.2.2.1 x27.2.2.2.1 x27.2.2.2.2.1 x27.2.2.2.2.2.1 x27.2.2.2.2.2.2.1 x27.2.2.2.2.2.2.2.1 x27.2.2.2.2.2.2.2.2 = some o23 := h; rw [M_checker_Where_L2] at h; refine aSq ?_; refine aRg ?_; intro _; refine dr_XDChk ?_; refine aSq ?_; refine aCd ?_; intro _; refine spl h (fun c29 h => ?_) (fun c29 h => ?_)
                  · refine aSk ?_; refine aSq ?_; refine aBk ?_; refine aSq ?_; refine aRg ?_; intro _; refine dr_XDChk ?_; refine aSq ?_; refine aRg ?_; intro _; obtain ⟨z255, c256, u30, h⟩ := ob2_ok h; refine clg_XDChk [(73, 52)] [] [] [(52, ⟨0, some ⟨73, 7, true, [[.sl 1 (c256.t.Vars.map cI), .sl 1 (c256.t.Init.map cI), .sl 2 (c256.t.Goal.map cF), .sl 4 (c256.t.Ops.map cGOp), .c (.int .i64 c256.c.Bound), .sl 2 (c256.c.Nogoods.map cN), .c (.int .i64 c256.steps)]]⟩⟩)] (eA z255) rfl rfl (A_ck_step g ({ t := { Vars := x27.2.2.1, Init := x27.2.2.2.1, Goal := x27.2.2.2.2.1, Ops := x27.2.2.2.2.2.1 : GTask }, c := { Bound := x27.2.2.2.2.2.2.1, Nogoods := x27.2.2.2.2.2.2.2.1 : GCertificate }, steps := x27.2.2.2.2.2.2.2.2 : GChecker }) y231 x27.2.1 u30) ?_; intro _; refine dr_XDChk ?_; refine aSq ?_; rcases z255 with _ | e257
                    · replace h := erM_nil h; refine aRg ?_; intro _; refine dr_XDChk ?_; refine aCd ?_; intro _; refine litF ?_; refine aSk ?_; refine aRg ?_; intro _; refine dr_XDChk ?_; refine ⟨(k254, (IntKind.i64.wrap (x27.2.1 + 1)), c256.t.Vars, c256.t.Init, c256.t.Goal, c256.t.Ops, c256.c.Bound, c256.c.Nogoods, c256.steps), h, ltS m28, ?_⟩; exact ca_XDChk
                    · replace h := erM_no h; refine aRg ?_; intro _; refine dr_XDChk ?_; refine aCd ?_; intro _; refine litT ?_; refine aSq ?_; refine aRg ?_; intro _; refine dr_XDChk ?_; refine aRt ?_; have j31 := Option.some.inj h; subst j31; replace h := (osum_r hK24); intro _; obtain ⟨rfl, rfl, rfl⟩ := inj3 h; exact ca_XDChk
                  · refine aEx ?_; refine ⟨(x27.2.2.1, x27.2.2.2.1, x27.2.2.2.2.1, x27.2.2.2.2.2.1, x27.2.2.2.2.2.2.1, x27.2.2.2.2.2.2.2.1, x27.2.2.2.2.2.2.2.2), (Option.some.inj h).symm, ?_⟩; exact ca_XDChk
              · rintro ⟨v220, v221, v222, v223, v224, v225, v226⟩ ho; have ho := ho.symm; subst ho; intro _; replace h := (osum_l hK24); refine aRg ?_; intro _; refine dr_XDChk ?_; refine ⟨(k192, (IntKind.i64.wrap (x20.2.1 + 1)), v220, v221, v222, v223, v224, v225, v226), h, ltS m21, ?_⟩; exact ca_XDChk
            · refine aEx ?_; refine aSq ?_; refine aRg ?_; intro _; refine dr_XDChk ?_; refine aRt ?_; intro _; obtain ⟨rfl, rfl, rfl⟩ := inj3 h; exact ca_XDChk
    · replace h := erM_no h; refine aRg ?_; intro _; refine dr_XDChk ?_; refine aCd ?_; intro _; refine litT ?_; refine aSq ?_; refine aRg ?_; intro _; refine dr_XDChk ?_; refine aRt ?_; intro _; obtain ⟨rfl, rfl, rfl⟩ := inj3 h; exact ca_XDChk
  · replace h := erM_no h; refine aRg ?_; intro _; refine dr_XDChk ?_; refine aCd ?_; intro _; refine litT ?_; refine aSq ?_; refine aRg ?_; intro _; refine dr_XDChk ?_; refine aRt ?_; intro _; obtain ⟨rfl, rfl, rfl⟩ := inj3 h; exact ca_XDChk
def M_checker_Verify (g : Nat) (a0 : GTask) (a1 : GCertificate) (a2 : Int) : Option (Er) :=
  ob3 (M_checker_Where g a0 a1 a2) (fun _ _ z3 =>
   some z3)
set_option maxHeartbeats 16000000 in
set_option maxRecDepth 100000 in
theorem A_checker_Verify (g : Nat) (a0 : GTask) (a1 : GCertificate) (a2 : Int) {r1 : Er} (h : M_checker_Verify g a0 a1 a2 = some r1) : ACall cx 16 [.agg [.sl 1 (a0.Vars.map cI), .sl 1 (a0.Init.map cI), .sl 2 (a0.Goal.map cF), .sl 4 (a0.Ops.map cGOp)], .agg [.c (.int .i64 a1.Bound), .sl 2 (a1.Nogoods.map cN)], .c (.int .i64 a2)] (eA r1) := by
  refine aOf Tryz.func16 rfl (by decide) rfl (Nat.le_of_ble_eq_true rfl) ?_; intro _; unfold M_checker_Verify at h; refine aSq ?_; refine aRg ?_; intro _; refine dr_XDChk ?_; refine aSq ?_; refine aRg ?_; intro _; obtain ⟨z1, z2, z3, u1, h⟩ := ob3_ok h; refine cl_XDChk rfl (A_checker_Where g a0 a1 a2 u1) ?_; intro _; refine dr_XDChk ?_; refine aSq ?_; refine aRg ?_; intro _; refine dr_XDChk ?_; refine aRt ?_; intro _; obtain rfl := inj1 h; all_goals (cases z3); all_goals exact ca_XDChk
def M_l31_awake (g : Nat) : Option (Bool) :=
  ob1 (M_checker_Verify g ({ Vars := [2], Init := [0], Goal := [(0, 1)], Ops := [] : GTask }) ({ Bound := (-1), Nogoods := [([(0, 1)], 0)] : GCertificate }) 100) (fun z1 =>
   erM z1
    (ob1 (M_checker_Verify g ({ Vars := [2], Init := [0], Goal := [(0, 1)], Ops := [] : GTask }) ({ Bound := (-1), Nogoods := [] : GCertificate }) 100) (fun z3 =>
      ob1 (M_b_Is z3 13) (fun z4 =>
       some z4)))
    (fun _ => some false))
set_option maxHeartbeats 16000000 in
set_option maxRecDepth 100000 in
theorem A_l31_awake (g : Nat) {r1 : Bool} (h : M_l31_awake g = some r1) : ACall cx 12 [] (.c (.bool r1)) := by
  refine aOf Tryz.func12 rfl (by decide) rfl (Nat.le_of_ble_eq_true rfl) ?_; intro _; unfold M_l31_awake at h; refine aSq ?_; refine aRg ?_; intro _; refine dr_XDChk ?_; refine aSq ?_; refine aRg ?_; intro _; refine dr_XDChk ?_; refine aSq ?_; refine aRg ?_; intro _; refine dr_XDChk ?_; refine aSq ?_; refine aRg ?_; intro _; obtain ⟨z1, u1, h⟩ := ob1_ok h; refine clb_XDChk [3, 4, 6, 11] rfl rfl (A_checker_Verify g ({ Vars := [2], Init := [0], Goal := [(0, 1)], Ops := [] : GTask }) ({ Bound := (-1), Nogoods := [([(0, 1)], 0)] : GCertificate }) 100 u1) ?_; rcases z1 with _ | e2
  · replace h := erM_nil h; intro _; refine litT ?_; intro _; obtain ⟨z3, u2, h⟩ := ob1_ok h; refine clb_XDChk [3, 4, 6] rfl rfl (A_checker_Verify g ({ Vars := [2], Init := [0], Goal := [(0, 1)], Ops := [] : GTask }) ({ Bound := (-1), Nogoods := [] : GCertificate }) 100 u2) ?_; intro _; obtain ⟨z4, u3, h⟩ := ob1_ok h; refine cl_XDChk rfl (A_b_Is z3 13 u3) ?_; intro _; refine dr_XDChk ?_; refine aRt ?_; intro _; obtain rfl := inj1 h; exact ca_XDChk
  · replace h := erM_no h; intro _; refine litF ?_; intro _; refine dr_XDChk ?_; refine aRt ?_; intro _; obtain rfl := inj1 h; exact ca_XDChk
end Go.Proofs.YtcpajbglcgbolaaGreat.Am
/- Range loops of the models as recursions. -/
namespace Go.Proofs.YtcpajbglcgbolaaGreat.Am
def M_ce_formed_L1_B (a0 : List Fact) (_y7 : Fact) (v5 : Int) : Unit → (Unit → Option (Bool)) → Option (Bool) := fun _ rc => ixv _y7 (fun y7 =>
       sel (decide (y7.1 < 0))
        (some false)
        (sel (decide (y7.1 ≥ 64))
          (some false)
          (sel (decide (y7.2 < 0))
            (some false)
            (sel (decide (y7.2 ≥ 64))
              (some false)
              (sel (decide (v5 > 0))
                (ix a0 (IntKind.i64.wrap (v5 - 1)) (fun y8 =>
                  sel (decide (y8.1 ≥ y7.1))
                   (some false)
                   (rc ())))
                (rc ()))))))
def M_ce_formed_L1_E (_ : List Fact) : Unit → Option (Bool) := fun _ => some true
theorem M_ce_formed_L1_rg (a0 : List Fact) (hl : a0.length < 9223372036854775807) : ∀ (k n : Nat) , n ≤ a0.length → a0.length < k + n → M_ce_formed_L1 a0 k (n : Int) = Rg (M_ce_formed_L1_B a0) (M_ce_formed_L1_E a0) (a0.drop n) n () := by
  intro k n 
  refine rg_of (L := fun k i (p : Unit) => M_ce_formed_L1 a0 k i) hl (fun k n p y hy hn => ?_) (fun k p => ?_) k n ()
  · have h1 := lt_some hy
    have h2 := w64s hn
    first | (simp only [M_ce_formed_L1, M_ce_formed_L1_B, List.length_map, decide_lt h1, sel, ix_at hy, ixv, h2]; done) | (simp only [List.length_map] at h1 hy; simp only [M_ce_formed_L1, M_ce_formed_L1_B, List.length_map, decide_lt h1, sel, ix_at hy, ixv, h2]; done)
  · simp only [M_ce_formed_L1, M_ce_formed_L1_E, List.length_map, decide_ge, sel]
theorem M_ce_formed_L1_eq (a0 : List Fact)  (hl : a0.length < 9223372036854775807) : M_ce_formed_L1 a0 (((a0.map cF).length : Int).toNat + 1) 0 = Rg (M_ce_formed_L1_B a0) (M_ce_formed_L1_E a0) a0 0 () := by
  have h := M_ce_formed_L1_rg a0 hl (a0.length + 1) 0  (Nat.zero_le _) (by omega)
  rw [List.length_map, Int.toNat_natCast]
  exact h
def M_ce_Check_L1_B (_ : GCertificate) (_y21 : Nogood) (_ : Int) : Unit → (Unit → Option (Unit ⊕ Er)) → Option (Unit ⊕ Er) := fun _ rc => ixv _y21 (fun y21 =>
       ob1 (M_ce_formed y21.1) (fun z22 =>
        sel (!z22)
         (some (.inr (Er.no 2)))
         (rc ())))
def M_ce_Check_L1_E (_ : GCertificate) : Unit → Option (Unit ⊕ Er) := fun _ => some (.inl ())
theorem M_ce_Check_L1_rg (a0 : GCertificate) (hl : a0.Nogoods.length < 9223372036854775807) : ∀ (k n : Nat) , n ≤ a0.Nogoods.length → a0.Nogoods.length < k + n → M_ce_Check_L1 a0 k (n : Int) = Rg (M_ce_Check_L1_B a0) (M_ce_Check_L1_E a0) (a0.Nogoods.drop n) n () := by
  intro k n 
  refine rg_of (L := fun k i (p : Unit) => M_ce_Check_L1 a0 k i) hl (fun k n p y hy hn => ?_) (fun k p => ?_) k n ()
  · have h1 := lt_some hy
    have h2 := w64s hn
    first | (simp only [M_ce_Check_L1, M_ce_Check_L1_B, List.length_map, decide_lt h1, sel, ix_at hy, ixv, h2]; done) | (simp only [List.length_map] at h1 hy; simp only [M_ce_Check_L1, M_ce_Check_L1_B, List.length_map, decide_lt h1, sel, ix_at hy, ixv, h2]; done)
  · simp only [M_ce_Check_L1, M_ce_Check_L1_E, List.length_map, decide_ge, sel]
theorem M_ce_Check_L1_eq (a0 : GCertificate)  (hl : a0.Nogoods.length < 9223372036854775807) : M_ce_Check_L1 a0 (((a0.Nogoods.map cN).length : Int).toNat + 1) 0 = Rg (M_ce_Check_L1_B a0) (M_ce_Check_L1_E a0) a0.Nogoods 0 () := by
  have h := M_ce_Check_L1_rg a0 hl (a0.Nogoods.length + 1) 0  (Nat.zero_le _) (by omega)
  rw [List.length_map, Int.toNat_natCast]
  exact h
def M_ce_Check_L2_B (a0 : GCertificate) (_y28 : Nogood) (_ : Int) : Unit → (Unit → Option (Er)) → Option (Er) := fun _ rc => ixv _y28 (fun y28 =>
       sel (decide (y28.2 < 0))
        (some (Er.no 1))
        (sel (decide (a0.Bound ≥ 0))
          (sel (decide (y28.2 ≥ a0.Bound))
            (some (Er.no 1))
            (sel (decide (a0.Bound < 0))
              (sel (y28.2 != 0)
                (some (Er.no 1))
                (rc ()))
              (rc ())))
          (sel (decide (a0.Bound < 0))
            (sel (y28.2 != 0)
              (some (Er.no 1))
              (rc ()))
            (rc ()))))
def M_ce_Check_L2_E (_ : GCertificate) : Unit → Option (Er) := fun _ => some Er.nil
theorem M_ce_Check_L2_rg (a0 : GCertificate) (hl : a0.Nogoods.length < 9223372036854775807) : ∀ (k n : Nat) , n ≤ a0.Nogoods.length → a0.Nogoods.length < k + n → M_ce_Check_L2 a0 k (n : Int) = Rg (M_ce_Check_L2_B a0) (M_ce_Check_L2_E a0) (a0.Nogoods.drop n) n () := by
  intro k n 
  refine rg_of (L := fun k i (p : Unit) => M_ce_Check_L2 a0 k i) hl (fun k n p y hy hn => ?_) (fun k p => ?_) k n ()
  · have h1 := lt_some hy
    have h2 := w64s hn
    first | (simp only [M_ce_Check_L2, M_ce_Check_L2_B, List.length_map, decide_lt h1, sel, ix_at hy, ixv, h2]; done) | (simp only [List.length_map] at h1 hy; simp only [M_ce_Check_L2, M_ce_Check_L2_B, List.length_map, decide_lt h1, sel, ix_at hy, ixv, h2]; done)
  · simp only [M_ce_Check_L2, M_ce_Check_L2_E, List.length_map, decide_ge, sel]
theorem M_ce_Check_L2_eq (a0 : GCertificate)  (hl : a0.Nogoods.length < 9223372036854775807) : M_ce_Check_L2 a0 (((a0.Nogoods.map cN).length : Int).toNat + 1) 0 = Rg (M_ce_Check_L2_B a0) (M_ce_Check_L2_E a0) a0.Nogoods 0 () := by
  have h := M_ce_Check_L2_rg a0 hl (a0.Nogoods.length + 1) 0  (Nat.zero_le _) (by omega)
  rw [List.length_map, Int.toNat_natCast]
  exact h
def M_ce_Proper_L1_B (a0 : List Int) (_ : GCertificate) (_y10 : Nogood) (_ : Int) : Unit → (Unit → Option (Er)) → Option (Er) := fun _ rc => ixv _y10 (fun y10 =>
       ob1 (M_task_Facts a0 y10.1) (fun z11 =>
        sel (!z11)
         (some (Er.no 2))
         (rc ())))
def M_ce_Proper_L1_E (_ : List Int) (_ : GCertificate) : Unit → Option (Er) := fun _ => some Er.nil
theorem M_ce_Proper_L1_rg (a0 : List Int) (a1 : GCertificate) (hl : a1.Nogoods.length < 9223372036854775807) : ∀ (k n : Nat) , n ≤ a1.Nogoods.length → a1.Nogoods.length < k + n → M_ce_Proper_L1 a0 a1 k (n : Int) = Rg (M_ce_Proper_L1_B a0 a1) (M_ce_Proper_L1_E a0 a1) (a1.Nogoods.drop n) n () := by
  intro k n 
  refine rg_of (L := fun k i (p : Unit) => M_ce_Proper_L1 a0 a1 k i) hl (fun k n p y hy hn => ?_) (fun k p => ?_) k n ()
  · have h1 := lt_some hy
    have h2 := w64s hn
    first | (simp only [M_ce_Proper_L1, M_ce_Proper_L1_B, List.length_map, decide_lt h1, sel, ix_at hy, ixv, h2]; done) | (simp only [List.length_map] at h1 hy; simp only [M_ce_Proper_L1, M_ce_Proper_L1_B, List.length_map, decide_lt h1, sel, ix_at hy, ixv, h2]; done)
  · simp only [M_ce_Proper_L1, M_ce_Proper_L1_E, List.length_map, decide_ge, sel]
theorem M_ce_Proper_L1_eq (a0 : List Int) (a1 : GCertificate)  (hl : a1.Nogoods.length < 9223372036854775807) : M_ce_Proper_L1 a0 a1 (((a1.Nogoods.map cN).length : Int).toNat + 1) 0 = Rg (M_ce_Proper_L1_B a0 a1) (M_ce_Proper_L1_E a0 a1) a1.Nogoods 0 () := by
  have h := M_ce_Proper_L1_rg a0 a1 hl (a1.Nogoods.length + 1) 0  (Nat.zero_le _) (by omega)
  rw [List.length_map, Int.toNat_natCast]
  exact h
def M_ck_counting_L1_B (_ : GChecker) (a1 : Int) (_y8 : Nogood) (_ : Int) : ((List (List Fact))) → (((List (List Fact))) → Option (List (List Fact))) → Option (List (List Fact)) := fun v6 rc => ixv _y8 (fun y8 =>
       sel (decide (y8.2 ≤ a1))
        (grd ((v6.length + 1) * 24 ≤ 140737488355328) (rc ((v6 ++ [y8.1]))))
        (rc (v6)))
def M_ck_counting_L1_E (_ : GChecker) (_ : Int) : ((List (List Fact))) → Option (List (List Fact)) := fun v6 => grd (v6.length ≤ 140737488355328) (some v6)
theorem M_ck_counting_L1_rg (a0 : GChecker) (a1 : Int) (hl : a0.c.Nogoods.length < 9223372036854775807) : ∀ (k n : Nat) (v6 : List (List Fact)), n ≤ a0.c.Nogoods.length → a0.c.Nogoods.length < k + n → M_ck_counting_L1 a0 a1 k (n : Int) v6 = Rg (M_ck_counting_L1_B a0 a1) (M_ck_counting_L1_E a0 a1) (a0.c.Nogoods.drop n) n v6 := by
  intro k n v6
  refine rg_of (L := fun k i (p : ((List (List Fact)))) => match p with | v6 => M_ck_counting_L1 a0 a1 k i v6) hl (fun k n p y hy hn => ?_) (fun k p => ?_) k n v6
  · have h1 := lt_some hy
    have h2 := w64s hn
    first | (simp only [M_ck_counting_L1, M_ck_counting_L1_B, List.length_map, decide_lt h1, sel, ix_at hy, ixv, h2]; done) | (simp only [List.length_map] at h1 hy; simp only [M_ck_counting_L1, M_ck_counting_L1_B, List.length_map, decide_lt h1, sel, ix_at hy, ixv, h2]; done)
  · simp only [M_ck_counting_L1, M_ck_counting_L1_E, List.length_map, decide_ge, sel]
theorem M_ck_counting_L1_eq (a0 : GChecker) (a1 : Int) (v6 : List (List Fact)) (hl : a0.c.Nogoods.length < 9223372036854775807) : M_ck_counting_L1 a0 a1 (((a0.c.Nogoods.map cN).length : Int).toNat + 1) 0 v6 = Rg (M_ck_counting_L1_B a0 a1) (M_ck_counting_L1_E a0 a1) a0.c.Nogoods 0 v6 := by
  have h := M_ck_counting_L1_rg a0 a1 hl (a0.c.Nogoods.length + 1) 0 v6 (Nat.zero_le _) (by omega)
  rw [List.length_map, Int.toNat_natCast]
  exact h
def M_ck_step_L1_B (g : Nat) (v2 : Int) (_ : List (List Fact)) (_y37 : List Fact) (_ : Int) : ((List Int) × (List Int) × (List Fact) × (List GOp) × (Int) × (List Nogood) × (Int)) → (((List Int) × (List Int) × (List Fact) × (List GOp) × (Int) × (List Nogood) × (Int)) → Option (Er × GChecker)) → Option (Er × GChecker) := fun (v29, v30, v31, v32, v33, v34, v35) rc => ixv _y37 (fun y37 =>
       ob3 (M_ck_covered g ({ t := { Vars := v29, Init := v30, Goal := v31, Ops := v32 : GTask }, c := { Bound := v33, Nogoods := v34 : GCertificate }, steps := v35 : GChecker }) y37 v2) (fun z38 z39 c40 =>
        erM z39
         (sel (!z38)
           (some ((Er.no 19), c40))
           (rc (c40.t.Vars, c40.t.Init, c40.t.Goal, c40.t.Ops, c40.c.Bound, c40.c.Nogoods, c40.steps)))
         (fun e41 => some ((Er.no e41), c40))))
def M_ck_step_L1_E (_ : Nat) (_ : Int) (_ : List (List Fact)) : ((List Int) × (List Int) × (List Fact) × (List GOp) × (Int) × (List Nogood) × (Int)) → Option (Er × GChecker) := fun (v29, v30, v31, v32, v33, v34, v35) => some (Er.nil, { t := { Vars := v29, Init := v30, Goal := v31, Ops := v32 : GTask }, c := { Bound := v33, Nogoods := v34 : GCertificate }, steps := v35 : GChecker })
theorem M_ck_step_L1_rg (g : Nat) (v2 : Int) (z7 : List (List Fact)) (hl : z7.length < 9223372036854775807) : ∀ (k n : Nat) (v29 : List Int) (v30 : List Int) (v31 : List Fact) (v32 : List GOp) (v33 : Int) (v34 : List Nogood) (v35 : Int), n ≤ z7.length → z7.length < k + n → M_ck_step_L1 g v2 z7 k (n : Int) v29 v30 v31 v32 v33 v34 v35 = Rg (M_ck_step_L1_B g v2 z7) (M_ck_step_L1_E g v2 z7) (z7.drop n) n (v29, v30, v31, v32, v33, v34, v35) := by
  intro k n v29 v30 v31 v32 v33 v34 v35
  refine rg_of (L := fun k i (p : ((List Int) × (List Int) × (List Fact) × (List GOp) × (Int) × (List Nogood) × (Int))) => match p with | (v29, v30, v31, v32, v33, v34, v35) => M_ck_step_L1 g v2 z7 k i v29 v30 v31 v32 v33 v34 v35) hl (fun k n p y hy hn => ?_) (fun k p => ?_) k n (v29, v30, v31, v32, v33, v34, v35)
  · have h1 := lt_some hy
    have h2 := w64s hn
    first | (simp only [M_ck_step_L1, M_ck_step_L1_B, List.length_map, decide_lt h1, sel, ix_at hy, ixv, h2]; done) | (simp only [List.length_map] at h1 hy; simp only [M_ck_step_L1, M_ck_step_L1_B, List.length_map, decide_lt h1, sel, ix_at hy, ixv, h2]; done)
  · simp only [M_ck_step_L1, M_ck_step_L1_E, List.length_map, decide_ge, sel]
theorem M_ck_step_L1_eq (g : Nat) (v2 : Int) (z7 : List (List Fact)) (v29 : List Int) (v30 : List Int) (v31 : List Fact) (v32 : List GOp) (v33 : Int) (v34 : List Nogood) (v35 : Int) (hl : z7.length < 9223372036854775807) : M_ck_step_L1 g v2 z7 (((z7.map cL_cF).length : Int).toNat + 1) 0 v29 v30 v31 v32 v33 v34 v35 = Rg (M_ck_step_L1_B g v2 z7) (M_ck_step_L1_E g v2 z7) z7 0 (v29, v30, v31, v32, v33, v34, v35) := by
  have h := M_ck_step_L1_rg g v2 z7 hl (z7.length + 1) 0 v29 v30 v31 v32 v33 v34 v35 (Nat.zero_le _) (by omega)
  rw [List.length_map, Int.toNat_natCast]
  exact h
def M_checker_Where_L1_B (a0 : GTask) (_ : GCertificate) (_y25 : Nogood) (_ : Int) : Unit → (Unit → Option (Unit ⊕ (Int × Int × Er))) → Option (Unit ⊕ (Int × Int × Er)) := fun _ rc => ixv _y25 (fun y25 =>
       ob1 (M_task_Holds y25.1 a0.Init) (fun z26 =>
        sel z26
         (some (.inr ((-1), (-1), (Er.no 20))))
         (rc ())))
def M_checker_Where_L1_E (_ : GTask) (_ : GCertificate) : Unit → Option (Unit ⊕ (Int × Int × Er)) := fun _ => some (.inl ())
theorem M_checker_Where_L1_rg (a0 : GTask) (a1 : GCertificate) (hl : a1.Nogoods.length < 9223372036854775807) : ∀ (k n : Nat) , n ≤ a1.Nogoods.length → a1.Nogoods.length < k + n → M_checker_Where_L1 a0 a1 k (n : Int) = Rg (M_checker_Where_L1_B a0 a1) (M_checker_Where_L1_E a0 a1) (a1.Nogoods.drop n) n () := by
  intro k n 
  refine rg_of (L := fun k i (p : Unit) => M_checker_Where_L1 a0 a1 k i) hl (fun k n p y hy hn => ?_) (fun k p => ?_) k n ()
  · have h1 := lt_some hy
    have h2 := w64s hn
    first | (simp only [M_checker_Where_L1, M_checker_Where_L1_B, List.length_map, decide_lt h1, sel, ix_at hy, ixv, h2]; done) | (simp only [List.length_map] at h1 hy; simp only [M_checker_Where_L1, M_checker_Where_L1_B, List.length_map, decide_lt h1, sel, ix_at hy, ixv, h2]; done)
  · simp only [M_checker_Where_L1, M_checker_Where_L1_E, List.length_map, decide_ge, sel]
theorem M_checker_Where_L1_eq (a0 : GTask) (a1 : GCertificate)  (hl : a1.Nogoods.length < 9223372036854775807) : M_checker_Where_L1 a0 a1 (((a1.Nogoods.map cN).length : Int).toNat + 1) 0 = Rg (M_checker_Where_L1_B a0 a1) (M_checker_Where_L1_E a0 a1) a1.Nogoods 0 () := by
  have h := M_checker_Where_L1_rg a0 a1 hl (a1.Nogoods.length + 1) 0  (Nat.zero_le _) (by omega)
  rw [List.length_map, Int.toNat_natCast]
  exact h
def M_checker_Where_L2_B (_ : GTask) (g : Nat) (v184 : Int) (y231 : Nogood) (v246 : Int) : ((List Int) × (List Int) × (List Fact) × (List GOp) × (Int) × (List Nogood) × (Int)) → (((List Int) × (List Int) × (List Fact) × (List GOp) × (Int) × (List Nogood) × (Int)) → Option (((List Int) × (List Int) × (List Fact) × (List GOp) × Int × (List Nogood) × Int) ⊕ (Int × Int × Er))) → Option (((List Int) × (List Int) × (List Fact) × (List GOp) × Int × (List Nogood) × Int) ⊕ (Int × Int × Er)) := fun (v247, v248, v249, v250, v251, v252, v253) rc => ob2 (M_ck_step g ({ t := { Vars := v247, Init := v248, Goal := v249, Ops := v250 : GTask }, c := { Bound := v251, Nogoods := v252 : GCertificate }, steps := v253 : GChecker }) y231 v246) (fun z255 c256 =>
       erM z255
        (rc (c256.t.Vars, c256.t.Init, c256.t.Goal, c256.t.Ops, c256.c.Bound, c256.c.Nogoods, c256.steps))
        (fun e257 => some (.inr (v184, v246, (Er.no e257)))))
def M_checker_Where_L2_E (_ : GTask) (_ : Nat) (_ : Int) (_ : Nogood) : ((List Int) × (List Int) × (List Fact) × (List GOp) × (Int) × (List Nogood) × (Int)) → Option (((List Int) × (List Int) × (List Fact) × (List GOp) × Int × (List Nogood) × Int) ⊕ (Int × Int × Er)) := fun (v247, v248, v249, v250, v251, v252, v253) => some (.inl (v247, v248, v249, v250, v251, v252, v253))
theorem M_checker_Where_L2_rg (a0 : GTask) (g : Nat) (v184 : Int) (y231 : Nogood) {m : Nat} (hm : ((a0.Ops.map cGOp).length : Int) = (m : Int)) (hl : m < 9223372036854775807) : ∀ (k n : Nat) (v247 : List Int) (v248 : List Int) (v249 : List Fact) (v250 : List GOp) (v251 : Int) (v252 : List Nogood) (v253 : Int), n ≤ m → m < k + n → M_checker_Where_L2 a0 g v184 y231 k (n : Int) v247 v248 v249 v250 v251 v252 v253 = Rn (M_checker_Where_L2_B a0 g v184 y231) (M_checker_Where_L2_E a0 g v184 y231) (m - n) n (v247, v248, v249, v250, v251, v252, v253) := by
  intro k n v247 v248 v249 v250 v251 v252 v253
  refine rn_of (L := fun k i (p : ((List Int) × (List Int) × (List Fact) × (List GOp) × (Int) × (List Nogood) × (Int))) => match p with | (v247, v248, v249, v250, v251, v252, v253) => M_checker_Where_L2 a0 g v184 y231 k i v247 v248 v249 v250 v251 v252 v253) hl (fun k n p hn => ?_) (fun k p => ?_) k n (v247, v248, v249, v250, v251, v252, v253)
  · have h2 := w64s (Nat.lt_trans hn hl)
    simp only [M_checker_Where_L2, M_checker_Where_L2_B, hm, decide_lt hn, sel, h2]
  · simp only [M_checker_Where_L2, M_checker_Where_L2_E, hm, decide_ge, sel]
theorem M_checker_Where_L2_eq (a0 : GTask) (g : Nat) (v184 : Int) (y231 : Nogood) (v247 : List Int) (v248 : List Int) (v249 : List Fact) (v250 : List GOp) (v251 : Int) (v252 : List Nogood) (v253 : Int) {m : Nat} (hm : ((a0.Ops.map cGOp).length : Int) = (m : Int)) (hl : m < 9223372036854775807) : M_checker_Where_L2 a0 g v184 y231 ((((a0.Ops.map cGOp).length : Int)).toNat + 1) 0 v247 v248 v249 v250 v251 v252 v253 = Rn (M_checker_Where_L2_B a0 g v184 y231) (M_checker_Where_L2_E a0 g v184 y231) m 0 (v247, v248, v249, v250, v251, v252, v253) := by
  have h := M_checker_Where_L2_rg a0 g v184 y231 hm hl (m + 1) 0 v247 v248 v249 v250 v251 v252 v253 (Nat.zero_le _) (by omega)
  have e : (((a0.Ops.map cGOp).length : Int)).toNat = m := by rw [hm, Int.toNat_natCast]
  rw [e]
  exact h
def M_checker_Where_L3_B (a0 : GTask) (_ : GCertificate) (g : Nat) (_y231 : Nogood) (v184 : Int) : ((List Int) × (List Int) × (List Fact) × (List GOp) × (Int) × (List Nogood) × (Int)) → (((List Int) × (List Int) × (List Fact) × (List GOp) × (Int) × (List Nogood) × (Int)) → Option (Int × Int × Er)) → Option (Int × Int × Er) := fun (v185, v186, v187, v188, v189, v190, v191) rc => ob1 (ixv _y231 (fun y231 =>
        M_checker_Where_L2 a0 g v184 y231 ((((a0.Ops.map cGOp).length : Int)).toNat + 1) 0 v185 v186 v187 v188 v189 v190 v191) : Option (((List Int) × (List Int) × (List Fact) × (List GOp) × Int × (List Nogood) × Int) ⊕ (Int × Int × Er)))
       (osum
       (fun (v220, v221, v222, v223, v224, v225, v226) => rc (v220, v221, v222, v223, v224, v225, v226))
       (fun (r227, r228, r229) => some (r227, r228, r229)))
def M_checker_Where_L3_E (_ : GTask) (_ : GCertificate) (_ : Nat) : ((List Int) × (List Int) × (List Fact) × (List GOp) × (Int) × (List Nogood) × (Int)) → Option (Int × Int × Er) := fun (_, _, _, _, _, _, _) => some ((-1), (-1), Er.nil)
theorem M_checker_Where_L3_rg (a0 : GTask) (a1 : GCertificate) (g : Nat) (hl : a1.Nogoods.length < 9223372036854775807) : ∀ (k n : Nat) (v185 : List Int) (v186 : List Int) (v187 : List Fact) (v188 : List GOp) (v189 : Int) (v190 : List Nogood) (v191 : Int), n ≤ a1.Nogoods.length → a1.Nogoods.length < k + n → M_checker_Where_L3 a0 a1 g k (n : Int) v185 v186 v187 v188 v189 v190 v191 = Rg (M_checker_Where_L3_B a0 a1 g) (M_checker_Where_L3_E a0 a1 g) (a1.Nogoods.drop n) n (v185, v186, v187, v188, v189, v190, v191) := by
  intro k n v185 v186 v187 v188 v189 v190 v191
  refine rg_of (L := fun k i (p : ((List Int) × (List Int) × (List Fact) × (List GOp) × (Int) × (List Nogood) × (Int))) => match p with | (v185, v186, v187, v188, v189, v190, v191) => M_checker_Where_L3 a0 a1 g k i v185 v186 v187 v188 v189 v190 v191) hl (fun k n p y hy hn => ?_) (fun k p => ?_) k n (v185, v186, v187, v188, v189, v190, v191)
  · have h1 := lt_some hy
    have h2 := w64s hn
    first | (simp only [M_checker_Where_L3, M_checker_Where_L3_B, List.length_map, decide_lt h1, sel, ix_at hy, ixv, h2]; done) | (simp only [List.length_map] at h1 hy; simp only [M_checker_Where_L3, M_checker_Where_L3_B, List.length_map, decide_lt h1, sel, ix_at hy, ixv, h2]; done)
  · simp only [M_checker_Where_L3, M_checker_Where_L3_E, List.length_map, decide_ge, sel]
theorem M_checker_Where_L3_eq (a0 : GTask) (a1 : GCertificate) (g : Nat) (v185 : List Int) (v186 : List Int) (v187 : List Fact) (v188 : List GOp) (v189 : Int) (v190 : List Nogood) (v191 : Int) (hl : a1.Nogoods.length < 9223372036854775807) : M_checker_Where_L3 a0 a1 g (((a1.Nogoods.map cN).length : Int).toNat + 1) 0 v185 v186 v187 v188 v189 v190 v191 = Rg (M_checker_Where_L3_B a0 a1 g) (M_checker_Where_L3_E a0 a1 g) a1.Nogoods 0 (v185, v186, v187, v188, v189, v190, v191) := by
  have h := M_checker_Where_L3_rg a0 a1 g hl (a1.Nogoods.length + 1) 0 v185 v186 v187 v188 v189 v190 v191 (Nat.zero_le _) (by omega)
  rw [List.length_map, Int.toNat_natCast]
  exact h
end Go.Proofs.YtcpajbglcgbolaaGreat.Am
/- Plain: certificate.Check, Proper; task.Holds. -/
namespace Go.Proofs.YtcpajbglcgbolaaGreat.Am
open Go.RowKit
theorem tholds_eq (l : List Fact) (s : List Int) (hl : Sh l) : M_task_Holds l s = some (holdsF s l) := by
  rw [M_task_Holds, M_task_Holds_L1_eq l s hl.lt, rg_all (p := hold1 s) (c := some false)]
  · rw [M_task_Holds_L1_E, holdsF]; cases l.all (hold1 s) <;> rfl
  · intro x _ i rc
    rw [M_task_Holds_L1_B, ixv, sel_dec, sel_dec, List.length_map, hold1]
    by_cases h0 : x.1 < 0
    · rw [if_pos h0, decide_eq_false (by omega), Bool.false_and, if_neg (by decide)]
    · rw [if_neg h0, decide_eq_true (p := 0 ≤ x.1) (by omega), Bool.true_and]
      by_cases h1 : x.1 < s.length
      · rw [if_neg (by omega), decide_eq_true h1, Bool.true_and, ix_getD (d := 0) (by omega) h1, bne]
        cases s.getD x.1.toNat 0 == x.2 <;> rfl
      · rw [if_pos (by omega), decide_eq_false h1, Bool.false_and, if_neg (by decide)]
def limF (l : List Fact) : Bool := l.all fun x => decide (x.1 < 64 ∧ x.2 < 64)
def frmF (l : List Fact) : Bool := vF (-1) l && limF l
theorem formed_loop (l : List Fact) (hs : Sh l) : ∀ (r : List Fact) (n : Nat) (last : Int), l.drop n = r → n ≤ l.length → -1 ≤ last → (n = 0 → last = -1) → (∀ m, n = m + 1 → ∃ x, l[m]? = some x ∧ x.1 = last) → Rg (M_ce_formed_L1_B l) (M_ce_formed_L1_E l) r n () = some (vF last r && limF r)
  | [], _, _, _, _, _, _, _ => rfl
  | y :: r, n, last, hd, hn, hl, h0, hp => by
    rw [Rg, vF, limF, List.all_cons]
    obtain ⟨hy, hd', hlt⟩ := drop_cons hd
    have hih : 0 ≤ y.1 → Rg (M_ce_formed_L1_B l) (M_ce_formed_L1_E l) r ((n : Int) + 1) () = some (vF y.1 r && limF r) := fun h => formed_loop l hs r (n + 1) y.1 hd' hlt (by omega) (by omega) (fun m hm => ⟨y, by rw [show m = n by omega]; exact hy, rfl⟩)
    simp only [M_ce_formed_L1_B, ixv, sel_dec]
    by_cases h1 : y.1 < 0
    · rw [if_pos h1, decide_eq_false (p := last < y.1 ∧ 0 ≤ y.2) (by omega)]; rfl
    · rw [if_neg h1]
      by_cases h2 : y.1 ≥ 64
      · rw [if_pos h2, decide_eq_false (p := y.1 < 64 ∧ y.2 < 64) (by omega), Bool.false_and, Bool.and_false]
      · rw [if_neg h2]
        by_cases h3 : y.2 < 0
        · rw [if_pos h3, decide_eq_false (p := last < y.1 ∧ 0 ≤ y.2) (by omega)]; rfl
        · rw [if_neg h3]
          by_cases h4 : y.2 ≥ 64
          · rw [if_pos h4, decide_eq_false (p := y.1 < 64 ∧ y.2 < 64) (by omega), Bool.false_and, Bool.and_false]
          · rw [if_neg h4, decide_eq_true (p := y.1 < 64 ∧ y.2 < 64) (by omega), Bool.true_and]
            cases n with
            | zero =>
              have := h0 rfl
              rw [if_neg (by omega), decide_eq_true (p := last < y.1 ∧ 0 ≤ y.2) (by omega)]
              exact hih (by omega)
            | succ m =>
              obtain ⟨x, hx, hxl⟩ := hp m rfl
              rw [if_pos (by omega), w64 (by omega) (by have := hs; unfold Sh at this; omega), show (((m + 1 : Nat) : Int) - 1) = (m : Int) by omega, ix_at hx]
              by_cases h5 : x.1 ≥ y.1
              · rw [if_pos h5, decide_eq_false (p := last < y.1 ∧ 0 ≤ y.2) (by omega)]; rfl
              · rw [if_neg h5, decide_eq_true (p := last < y.1 ∧ 0 ≤ y.2) (by omega)]
                exact hih (by omega)
theorem formed_eq (l : List Fact) (hl : Sh l) : M_ce_formed l = some (frmF l) := by
  rw [M_ce_formed, M_ce_formed_L1_eq _ hl.lt]
  exact formed_loop l hl l 0 (-1) rfl (Nat.zero_le _) (by omega) (fun _ => rfl) (fun m hm => by omega)
/-- sizes of a certificate -/
structure ShC (c : GCertificate) : Prop where
  list : Sh c.Nogoods
  each : ∀ n ∈ c.Nogoods, Sh n.1
def distF (b : Int) (n : Nogood) : Bool := decide (0 ≤ n.2 ∧ (0 ≤ b → n.2 < b) ∧ (b < 0 → n.2 = 0))
def certF (c : GCertificate) : Er :=
  if c.Bound < -1 ∨ c.Bound > 1099511627776 then .no 1
  else if c.Nogoods.length > 4096 then .no 5
  else if (c.Nogoods.all fun n => frmF n.1) = true then (if (c.Nogoods.all (distF c.Bound)) = true then .nil else .no 1)
  else .no 2
theorem ccheck_eq (c : GCertificate) (hc : ShC c) : M_ce_Check c = some (certF c) := by
  rw [M_ce_Check, certF, sel_dec, sel_dec]
  by_cases h1 : c.Bound < -1
  · rw [if_pos h1, if_pos (Or.inl h1)]; rfl
  · rw [if_neg h1]
    by_cases h2 : c.Bound > 1099511627776
    · rw [if_pos h2, if_pos (Or.inr h2)]; rfl
    · rw [if_neg h2, if_neg (by omega), ob1_some, osum_inl, sel_dec, List.length_map]
      by_cases h3 : c.Nogoods.length > 4096
      · rw [if_pos (by omega), if_pos h3]
      · have e1 := M_ce_Check_L1_eq c (by omega)
        have e2 := M_ce_Check_L2_eq c (by omega)
        rw [List.length_map] at e1 e2
        rw [if_neg (by omega), if_neg h3, e1, rg_all (p := fun n : Nogood => frmF n.1) (c := some (.inr (Er.no 2)))]
        · cases ha : c.Nogoods.all fun n => frmF n.1 with
          | false => rw [if_neg (by decide), ob1_some, osum_inr, if_neg (by decide)]
          | true =>
            rw [if_pos rfl, if_pos rfl, M_ce_Check_L1_E, ob1_some, osum_inl, e2, rg_all (p := distF c.Bound) (c := some (Er.no 1)), M_ce_Check_L2_E]
            · split <;> rfl
            · intro n _ i rc
              rw [M_ce_Check_L2_B, ixv, distF]
              simp only [sel_dec]
              by_cases q1 : n.2 < 0
              · rw [if_pos q1, decide_eq_false (by omega)]; rfl
              · rw [if_neg q1]
                by_cases q2 : c.Bound ≥ 0
                · rw [if_pos q2]
                  by_cases q3 : n.2 ≥ c.Bound
                  · rw [if_pos q3, decide_eq_false (by omega)]; rfl
                  · rw [if_neg q3, if_neg (by omega), decide_eq_true (by omega)]; rfl
                · rw [if_neg q2, if_pos (by omega)]
                  by_cases q4 : n.2 = 0
                  · rw [show (n.2 != 0) = false from by simp [q4], sel_ff, decide_eq_true (by omega)]; rfl
                  · rw [show (n.2 != 0) = true from by simp [q4], sel_tt, decide_eq_false (by omega)]; rfl
        · intro n hn i rc
          rw [M_ce_Check_L1_B, ixv, formed_eq n.1 (hc.each n hn), ob1_some]
          cases frmF n.1 <;> rfl
def properF (vars : List Int) (c : GCertificate) : Er :=
  match certF c with
  | .nil => if (c.Nogoods.all fun n => propF vars (-1) n.1) = true then .nil else .no 2
  | .no e => .no e
theorem cproper_eq (vars : List Int) (c : GCertificate) (hc : ShC c) : M_ce_Proper vars c = some (properF vars c) := by
  have e1 := M_ce_Proper_L1_eq vars c hc.list.lt
  rw [M_ce_Proper, ccheck_eq c hc, ob1_some, properF, e1]
  cases certF c with
  | no e => rfl
  | nil =>
    show Rg _ _ _ _ _ = _
    rw [rg_all (p := fun n : Nogood => propF vars (-1) n.1) (c := some (Er.no 2)), M_ce_Proper_L1_E]
    · simp only; split <;> rfl
    · intro n hn i rc
      rw [M_ce_Proper_L1_B, ixv, facts_eq vars n.1 (hc.each n hn), ob1_some]
      cases propF vars (-1) n.1 <;> rfl
/-- a certificate that is proper -/
structure CertP (vars : List Int) (c : GCertificate) : Prop where
  b0 : -1 ≤ c.Bound
  b1 : c.Bound ≤ 1099511627776
  len : c.Nogoods.length ≤ 4096
  prop : ∀ n ∈ c.Nogoods, propF vars (-1) n.1 = true
  frm : ∀ n ∈ c.Nogoods, frmF n.1 = true
  d0 : ∀ n ∈ c.Nogoods, 0 ≤ n.2
  d1 : ∀ n ∈ c.Nogoods, 0 ≤ c.Bound → n.2 < c.Bound
  d2 : ∀ n ∈ c.Nogoods, c.Bound < 0 → n.2 = 0
theorem certF_nil (c : GCertificate) : certF c = .nil ↔ -1 ≤ c.Bound ∧ c.Bound ≤ 1099511627776 ∧ c.Nogoods.length ≤ 4096 ∧ (∀ n ∈ c.Nogoods, frmF n.1 = true) ∧ ∀ n ∈ c.Nogoods, distF c.Bound n = true := by
  unfold certF
  split
  · exact ⟨(nofun), fun h => by omega⟩
  · split
    · exact ⟨(nofun), fun h => by omega⟩
    · split
      · rename_i h
        rw [List.all_eq_true] at h
        split
        · rename_i h2
          rw [List.all_eq_true] at h2
          exact ⟨fun _ => ⟨by omega, by omega, by omega, h, h2⟩, fun _ => rfl⟩
        · rename_i h2
          rw [List.all_eq_true] at h2
          exact ⟨(nofun), fun hh => absurd hh.2.2.2.2 h2⟩
      · rename_i h
        rw [List.all_eq_true] at h
        exact ⟨(nofun), fun hh => absurd hh.2.2.2.1 h⟩
theorem properF_nil (vars : List Int) (c : GCertificate) : properF vars c = .nil ↔ CertP vars c := by
  unfold properF
  constructor
  · intro h
    cases hc : certF c with
    | no e => rw [hc] at h; cases h
    | nil =>
      rw [hc] at h
      simp only at h
      split at h
      · rename_i ha
        rw [List.all_eq_true] at ha
        obtain ⟨h1, h2, h3, h4, h5⟩ := (certF_nil c).1 hc
        have hd : ∀ n ∈ c.Nogoods, 0 ≤ n.2 ∧ (0 ≤ c.Bound → n.2 < c.Bound) ∧ (c.Bound < 0 → n.2 = 0) := fun n hn => of_decide_eq_true (h5 n hn)
        exact ⟨h1, h2, h3, ha, h4, fun n hn => (hd n hn).1, fun n hn => (hd n hn).2.1, fun n hn => (hd n hn).2.2⟩
      · cases h
  · intro h
    rw [(certF_nil c).2 ⟨h.b0, h.b1, h.len, h.frm, fun n hn => decide_eq_true ⟨h.d0 n hn, h.d1 n hn, h.d2 n hn⟩⟩]
    simp only
    rw [if_pos (List.all_eq_true.2 h.prop)]
end Go.Proofs.YtcpajbglcgbolaaGreat.Am
/- Plain: checker.Where, Verify. -/
namespace Go.Proofs.YtcpajbglcgbolaaGreat.Am
open Go.RowKit
def countL (ns : List Nogood) (d : Int) : List (List Fact) := (ns.filter fun n => decide (n.2 ≤ d)).map (·.1)
theorem count_loop (x : GChecker) (d : Int) : ∀ (r : List Nogood) (i : Int) (v : List (List Fact)), v.length + r.length ≤ 1000000 →
    Rg (M_ck_counting_L1_B x d) (M_ck_counting_L1_E x d) r i v = some (v ++ countL r d)
  | [], i, v, h => by rw [Rg, M_ck_counting_L1_E, grd_t (by simp at h; omega)]; simp [countL]
  | n :: r, i, v, h => by
    rw [List.length_cons] at h
    rw [Rg, M_ck_counting_L1_B, ixv, sel_dec]
    by_cases hd : n.2 ≤ d
    · rw [if_pos hd, grd_t (by omega), count_loop x d r _ _ (by simp; omega)]
      simp [countL, hd]
    · rw [if_neg hd, count_loop x d r _ _ (by omega)]
      simp [countL, hd]
theorem counting_eq (x : GChecker) (d : Int) (h : x.c.Nogoods.length ≤ 4096) : M_ck_counting x d = some (countL x.c.Nogoods d) := by
  rw [M_ck_counting, M_ck_counting_L1_eq x d [] (by omega), count_loop x d _ _ _ (by simp; omega), List.nil_append]
theorem count_prop {vars : List Int} {c : GCertificate} (h : CertP vars c) (d : Int) : PropL vars (countL c.Nogoods d) := fun x hx => by
  obtain ⟨n, hn, rfl⟩ := List.mem_map.1 hx
  exact h.prop n (List.mem_filter.1 hn).1
theorem count_len {vars : List Int} {c : GCertificate} (h : CertP vars c) (d : Int) : (countL c.Nogoods d).length ≤ 4096 := by
  unfold countL
  rw [List.length_map]
  exact Nat.le_trans (List.length_filter_le _ _) h.len
/-- one question, with the steps that are left -/
def askC (t : GTask) (c : GCertificate) (p : List Fact) (d r : Int) : Bool × Er × Int :=
  if (covA t.Vars p (countL c.Nogoods d)).2 ≤ r then ((covA t.Vars p (countL c.Nogoods d)).1, .nil, r - (covA t.Vars p (countL c.Nogoods d)).2) else (false, .no 10, r)
theorem covA_pos (vars : List Int) (p : List Fact) (l : List (List Fact)) : 1 ≤ (covA vars p l).2 := decA_pos _ _ _ _
theorem askC_r {t : GTask} {c : GCertificate} {p : List Fact} {d r : Int} (h : 0 ≤ r ∧ r ≤ 1048576) : 0 ≤ (askC t c p d r).2.2 ∧ (askC t c p d r).2.2 ≤ 1048576 := by
  have := covA_pos t.Vars p (countL c.Nogoods d)
  unfold askC
  split
  · show 0 ≤ r - _ ∧ r - _ ≤ _; omega
  · exact h
theorem ask_eq {t : GTask} {c : GCertificate} (hd : DomP t.Vars) (hc : CertP t.Vars c) (g : Nat) (hg : 70 ≤ g) (p : List Fact) (hp : propF t.Vars (-1) p = true) (d r : Int) (hr : 0 ≤ r ∧ r ≤ 1048576) :
    M_ck_covered g { t := t, c := c, steps := r } p d = some ((askC t c p d r).1, (askC t c p d r).2.1, { t := t, c := c, steps := (askC t c p d r).2.2 }) := by
  have hl := count_len hc d
  rw [M_ck_covered, counting_eq _ d hc.len, ob1_some]
  show ob3 (M_p_Covered g t.Vars p (countL c.Nogoods d) r) _ = _
  rw [covered_eq hd hp (count_prop hc d) (by omega) r (by omega) g (by omega), covR, askC]
  have hpos := covA_pos t.Vars p (countL c.Nogoods d)
  by_cases h : (covA t.Vars p (countL c.Nogoods d)).2 ≤ r
  · rw [if_pos h, if_pos h, ob3_some]
    show some (_, _, _) = some (_, _, _)
    rw [wrap_eq (by show _ ≤ r - _; omega) (by show r - _ ≤ _; omega)]
  · rw [if_neg h, if_neg h, ob3_some]; rfl
def stepL (t : GTask) (c : GCertificate) (d : Int) : List (List Fact) → Int → Er × Int
  | [], r => (.nil, r)
  | p :: ps, r => match askC t c p d r with
    | (true, .nil, r') => stepL t c d ps r'
    | (false, .nil, r') => (.no 19, r')
    | (_, .no e, r') => (.no e, r')
theorem stepL_r (t : GTask) (c : GCertificate) (d : Int) : ∀ (l : List (List Fact)) (r : Int), 0 ≤ r ∧ r ≤ 1048576 → 0 ≤ (stepL t c d l r).2 ∧ (stepL t c d l r).2 ≤ 1048576
  | [], r, h => h
  | p :: ps, r, h => by
    have ha := askC_r (t := t) (c := c) (p := p) (d := d) h
    rw [stepL]
    rcases hq : askC t c p d r with ⟨b, e, r'⟩
    rw [hq] at ha
    cases e with
    | no e => cases b <;> exact ha
    | nil =>
      cases b with
      | false => exact ha
      | true => exact stepL_r t c d ps r' ha
theorem step_loop {t : GTask} {c : GCertificate} (hd : DomP t.Vars) (hc : CertP t.Vars c) (g : Nat) (hg : 70 ≤ g) (d : Int) (z : List (List Fact)) : ∀ (l : List (List Fact)) (i r : Int), PropL t.Vars l → 0 ≤ r ∧ r ≤ 1048576 →
    Rg (M_ck_step_L1_B g d z) (M_ck_step_L1_E g d z) l i (t.Vars, t.Init, t.Goal, t.Ops, c.Bound, c.Nogoods, r) = some ((stepL t c d l r).1, { t := t, c := c, steps := (stepL t c d l r).2 })
  | [], i, r, _, _ => rfl
  | p :: ps, i, r, hl, hr => by
    rw [Rg, M_ck_step_L1_B]
    show ixv p (fun y37 => ob3 (M_ck_covered g { t := t, c := c, steps := r } y37 d) _) = _
    rw [ixv, ask_eq hd hc g hg p (hl p (List.mem_cons_self ..)) d r hr, ob3_some, stepL]
    have ha := askC_r (t := t) (c := c) (p := p) (d := d) hr
    rcases hq : askC t c p d r with ⟨b, e, r'⟩
    rw [hq] at ha
    cases e with
    | no e => cases b <;> rfl
    | nil =>
      cases b with
      | false => rfl
      | true => exact step_loop hd hc g hg d z ps _ r' (fun x hx => hl x (List.mem_cons_of_mem _ hx)) ha
def distO (c : GCertificate) (n : Nogood) (o : GOp) : Int := if 0 ≤ c.Bound then n.2 + o.Cost else 0
def skipO (c : GCertificate) (n : Nogood) (o : GOp) : Bool := decide (0 ≤ c.Bound ∧ c.Bound ≤ n.2 + o.Cost)
def stepO (t : GTask) (c : GCertificate) (n : Nogood) (o : GOp) (r : Int) : Er × Int :=
  if skipO c n o = true then (.nil, r)
  else match regO t.Vars o n.1 with
    | none => (.no 5, r)
    | some l => stepL t c (distO c n o) l r
theorem stepO_r (t : GTask) (c : GCertificate) (n : Nogood) (o : GOp) (r : Int) (h : 0 ≤ r ∧ r ≤ 1048576) : 0 ≤ (stepO t c n o r).2 ∧ (stepO t c n o r).2 ≤ 1048576 := by
  unfold stepO
  split
  · exact h
  · split
    · exact h
    · exact stepL_r _ _ _ _ _ h
theorem regO_len {t : GTask} (hgood : goodF t = true) {p : List Fact} (hpf : propF t.Vars (-1) p = true) {o : GOp} (ho : o ∈ t.Ops) {l : List (List Fact)} (h : regO t.Vars o p = some l) : PropL t.Vars l ∧ l.length ≤ 1024 := by
  unfold regO at h
  cases hr : regG t.Vars o p [o.Pre] with
  | none => rw [hr] at h; cases h
  | some m =>
    rw [hr, Option.map_some] at h
    obtain rfl := Option.some.inj h
    obtain ⟨l1, -, l3⟩ := pre_prop hgood hpf ho hr
    refine ⟨fun x hx => l1 x (List.mem_filter.1 ((sortLL_mem x _).1 hx)).1, ?_⟩
    rw [sortLL_length]
    exact Nat.le_trans (List.length_filter_le _ _) l3
theorem good_cost {t : GTask} (h : goodF t = true) {o : GOp} (ho : o ∈ t.Ops) : 0 ≤ o.Cost ∧ o.Cost ≤ 1048576 := by
  unfold goodF at h
  simp only [Bool.and_eq_true, List.all_eq_true] at h
  have := h.2.2.2.2 o ho
  unfold opF at this
  simp only [Bool.and_eq_true, decide_eq_true_iff] at this
  exact ⟨this.1.1, this.1.2.1⟩
theorem step_eq {t : GTask} (ht : ShT t) (hgood : goodF t = true) {c : GCertificate} (hc : CertP t.Vars c) (g : Nat) (hg : 70 ≤ g) (n : Nogood) (hn : n ∈ c.Nogoods) (j : Nat) (o : GOp) (hj : t.Ops[j]? = some o) (r : Int) (hr : 0 ≤ r ∧ r ≤ 1048576) :
    M_ck_step g { t := t, c := c, steps := r } n j = some ((stepO t c n o r).1, { t := t, c := c, steps := (stepO t c n o r).2 }) := by
  have hd := good_dom hgood
  have ho := List.mem_of_getElem? hj
  have hcost := good_cost hgood ho
  have hn0 := hc.d0 n hn
  have hn1 := hc.d1 n hn
  have hb1 := hc.b1
  have hw : 0 ≤ c.Bound → IntKind.i64.wrap (n.2 + o.Cost) = n.2 + o.Cost := fun h => wrap_eq (by omega) (by have := hn1 h; omega)
  have hreg : ∀ v : Int, v = distO c n o → skipO c n o = false → ob2 (M_g_Regress g t (j : Int) n.1) (fun z7 z8 =>
      erM z8 (M_ck_step_L1 g v z7 ((((z7.map cL_cF).length : Int)).toNat + 1) 0 t.Vars t.Init t.Goal t.Ops c.Bound c.Nogoods r)
       (fun e9 => some ((Er.no e9), ({ t := t, c := c, steps := r } : GChecker)))) = some ((stepO t c n o r).1, { t := t, c := c, steps := (stepO t c n o r).2 }) := by
    intro v hv hs
    rw [regress_eq t ht hgood n.1 (hc.prop n hn) g hg (j : Int) o (by omega) (by rw [Int.toNat_natCast]; exact hj), ob2_res, stepO, hs, if_neg (by decide)]
    cases hro : regO t.Vars o n.1 with
    | none => rfl
    | some l =>
      obtain ⟨l1, l2⟩ := regO_len hgood (hc.prop n hn) ho hro
      simp only
      rw [M_ck_step_L1_eq g v l _ _ _ _ _ _ _ (by omega), step_loop hd hc g hg v l l 0 r l1 hr, hv]
  rw [M_ck_step]
  simp only [sel_dec, ge_iff_le]
  by_cases h : 0 ≤ c.Bound
  · rw [if_pos h, ix_at hj, hw h]
    by_cases h2 : c.Bound ≤ n.2 + o.Cost
    · have hs : skipO c n o = true := decide_eq_true ⟨h, h2⟩
      rw [if_pos h2, ob1_some, osum_inr, stepO, hs, if_pos rfl]
    · rw [if_neg h2, ob1_some, osum_inl]
      exact hreg _ (by rw [distO, if_pos h]) (decide_eq_false (by omega))
  · rw [if_neg h, ob1_some, osum_inl]
    exact hreg _ (by rw [distO, if_neg h]) (decide_eq_false (by omega))
/-- the operators for one nogood: the steps left, or where it fails -/
def opsC (t : GTask) (c : GCertificate) (n : Nogood) (i : Int) : List GOp → Int → Int → Int ⊕ (Int × Int × Er)
  | [], _, r => .inl r
  | o :: os, j, r => match stepO t c n o r with
    | (.nil, r') => opsC t c n i os (j + 1) r'
    | (.no e, _) => .inr (i, j, .no e)
def nogC (t : GTask) (c : GCertificate) : List Nogood → Int → Int → Int × Int × Er
  | [], _, _ => (-1, -1, .nil)
  | n :: ns, i, r => match opsC t c n i t.Ops 0 r with
    | .inl r' => nogC t c ns (i + 1) r'
    | .inr x => x
theorem opsC_r (t : GTask) (c : GCertificate) (n : Nogood) (i : Int) : ∀ (l : List GOp) (j r : Int), 0 ≤ r ∧ r ≤ 1048576 → ∀ r', opsC t c n i l j r = .inl r' → 0 ≤ r' ∧ r' ≤ 1048576
  | [], j, r, h, r', e => by rw [opsC] at e; injection e with e; omega
  | o :: os, j, r, h, r', e => by
    have hs := stepO_r t c n o r h
    rw [opsC] at e
    rcases hq : stepO t c n o r with ⟨x, y⟩
    rw [hq] at e hs
    cases x with
    | no x => cases e
    | nil => exact opsC_r t c n i os (j + 1) y hs r' e
theorem ops_loop {t : GTask} (ht : ShT t) (hgood : goodF t = true) {c : GCertificate} (hc : CertP t.Vars c) (g : Nat) (hg : 70 ≤ g) (n : Nogood) (hn : n ∈ c.Nogoods) (i : Int) : ∀ (l : List GOp) (m j : Nat) (r : Int), t.Ops.drop j = l → l.length = m → 0 ≤ r ∧ r ≤ 1048576 →
    Rn (M_checker_Where_L2_B t g i n) (M_checker_Where_L2_E t g i n) m j (t.Vars, t.Init, t.Goal, t.Ops, c.Bound, c.Nogoods, r) = some (match opsC t c n i l j r with | .inl r' => .inl (t.Vars, t.Init, t.Goal, t.Ops, c.Bound, c.Nogoods, r') | .inr x => .inr x)
  | [], m, j, r, _, hm, _ => by subst hm; rfl
  | o :: os, m, j, r, hdr, hm, hr => by
    obtain ⟨hj, hd', hlt⟩ := drop_cons hdr
    obtain ⟨m, rfl⟩ : ∃ k, m = k + 1 := ⟨os.length, hm.symm⟩
    rw [Rn, M_checker_Where_L2_B]
    show ob2 (M_ck_step g { t := t, c := c, steps := r } n (j : Int)) _ = _
    have hs := stepO_r t c n o r hr
    rw [step_eq ht hgood hc g hg n hn j o hj r hr, ob2_some, opsC]
    rcases hq : stepO t c n o r with ⟨x, y⟩
    rw [hq] at hs
    cases x with
    | no x => rfl
    | nil => exact ops_loop ht hgood hc g hg n hn i os m (j + 1) y hd' (by simpa using hm) hs
theorem nog_loop {t : GTask} (ht : ShT t) (hgood : goodF t = true) {c : GCertificate} (hc : CertP t.Vars c) (g : Nat) (hg : 70 ≤ g) : ∀ (l : List Nogood) (i r : Int), (∀ n ∈ l, n ∈ c.Nogoods) → 0 ≤ r ∧ r ≤ 1048576 →
    Rg (M_checker_Where_L3_B t c g) (M_checker_Where_L3_E t c g) l i (t.Vars, t.Init, t.Goal, t.Ops, c.Bound, c.Nogoods, r) = some (nogC t c l i r)
  | [], i, r, _, _ => rfl
  | n :: ns, i, r, hl, hr => by
    have hops : t.Ops.length ≤ 4096 := by
      unfold goodF at hgood
      simp only [Bool.and_eq_true, decide_eq_true_iff] at hgood
      exact hgood.1.2
    rw [Rg, M_checker_Where_L3_B]
    show ob1 (ixv n (fun y231 => M_checker_Where_L2 t g i y231 ((((t.Ops.map cGOp).length : Int)).toNat + 1) 0 t.Vars t.Init t.Goal t.Ops c.Bound c.Nogoods r)) _ = _
    rw [ixv, M_checker_Where_L2_eq t g i n _ _ _ _ _ _ _ (m := t.Ops.length) (by rw [List.length_map]) (by omega)]
    have e := ops_loop ht hgood hc g hg n (hl n (List.mem_cons_self ..)) i t.Ops t.Ops.length 0 r rfl rfl hr
    have e' : Rn (M_checker_Where_L2_B t g i n) (M_checker_Where_L2_E t g i n) t.Ops.length 0 (t.Vars, t.Init, t.Goal, t.Ops, c.Bound, c.Nogoods, r) = _ := e
    rw [e', ob1_some, nogC]
    have hr2 := opsC_r t c n i t.Ops 0 r hr
    show osum _ _ (match opsC t c n i t.Ops 0 r with | .inl r' => _ | .inr x => _) = _
    cases ho : opsC t c n i t.Ops 0 r with
    | inl r' => exact nog_loop ht hgood hc g hg ns _ r' (fun x hx => hl x (List.mem_cons_of_mem _ hx)) (hr2 r' ho)
    | inr x => rfl
/-- what Where answers for a right task and certificate -/
def whereC (t : GTask) (c : GCertificate) (r : Int) : Int × Int × Er :=
  if c.Nogoods.any (fun n => holdsF t.Init n.1) = true then (-1, -1, .no 20)
  else if c.Bound = 0 then nogC t c c.Nogoods 0 r
  else match askC t c t.Goal 0 r with
    | (true, .nil, r') => nogC t c c.Nogoods 0 r'
    | (false, .nil, _) => (-1, -1, .no 13)
    | (_, .no e, _) => (-1, -1, .no e)
def whereF (t : GTask) (c : GCertificate) (steps : Int) : Int × Int × Er :=
  match checkF t with
  | .no e => (-1, -1, .no e)
  | .nil => match properF t.Vars c with
    | .no e => (-1, -1, .no e)
    | .nil => whereC t c (max 0 (min steps 1048576))
theorem where_eq (t : GTask) (ht : ShT t) (c : GCertificate) (hc : ShC c) (steps : Int) (g : Nat) (hg : 70 ≤ g) : M_checker_Where g t c steps = some (whereF t c steps) := by
  rw [M_checker_Where, check_eq t ht, ob1_some, whereF]
  cases hck : checkF t with
  | no e => rfl
  | nil =>
    have hgood := (good_check t).2 hck
    show ob1 (M_ce_Proper t.Vars c) _ = _
    rw [cproper_eq t.Vars c hc, ob1_some]
    cases hpr : properF t.Vars c with
    | no e => rfl
    | nil =>
      have hcp := (properF_nil t.Vars c).1 hpr
      have hd := good_dom hgood
      have e1 := M_checker_Where_L1_eq t c hc.list.lt
      have hr : 0 ≤ max 0 (min steps 1048576) ∧ max 0 (min steps 1048576) ≤ 1048576 := by omega
      have hgoal : propF t.Vars (-1) t.Goal = true := by
        unfold goodF at hgood
        simp only [Bool.and_eq_true] at hgood
        exact hgood.2.2.2.1
      show ob1 (M_checker_Where_L1 t c _ 0) _ = _
      rw [e1, rg_all (p := fun n : Nogood => !holdsF t.Init n.1) (c := some (.inr ((-1), (-1), (Er.no 20)))), whereC]
      · have hna : (c.Nogoods.all fun n => !holdsF t.Init n.1) = !(c.Nogoods.any fun n => holdsF t.Init n.1) := by rw [List.not_any_eq_all_not]
        rw [hna]
        cases ha : c.Nogoods.any fun n => holdsF t.Init n.1 with
        | true => rfl
        | false =>
          rw [Bool.not_false, if_pos rfl, M_checker_Where_L1_E, ob1_some, osum_inl, if_neg (by decide)]
          have hnog : ∀ r : Int, 0 ≤ r ∧ r ≤ 1048576 → M_checker_Where_L3 t c g ((((c.Nogoods.map cN).length : Int)).toNat + 1) 0 t.Vars t.Init t.Goal t.Ops c.Bound c.Nogoods r = some (nogC t c c.Nogoods 0 r) := fun r hr => by
            rw [M_checker_Where_L3_eq t c g _ _ _ _ _ _ _ hc.list.lt, nog_loop ht hgood hcp g hg c.Nogoods 0 r (fun _ h => h) hr]
          by_cases hb : c.Bound = 0
          · rw [if_pos hb, show (c.Bound != 0) = false from by simp [hb], sel_ff, ob1_some, osum_inl]
            exact hnog _ hr
          · rw [if_neg hb, show (c.Bound != 0) = true from by simp [hb], sel_tt, ask_eq hd hcp g hg t.Goal hgoal 0 _ hr, ob3_some]
            have ha := askC_r (t := t) (c := c) (p := t.Goal) (d := 0) hr
            rcases hq : askC t c t.Goal 0 (max 0 (min steps 1048576)) with ⟨b, e, r'⟩
            rw [hq] at ha
            cases e with
            | no e => cases b <;> rfl
            | nil =>
              cases b with
              | false => rfl
              | true => exact hnog r' ha
      · intro n hn i rc
        rw [M_checker_Where_L1_B, ixv, tholds_eq n.1 t.Init (hc.each n hn), ob1_some]
        cases holdsF t.Init n.1 <;> rfl
def verF (t : GTask) (c : GCertificate) (steps : Int) : Er := (whereF t c steps).2.2
theorem verify_eq (t : GTask) (ht : ShT t) (c : GCertificate) (hc : ShC c) (steps : Int) (g : Nat) (hg : 70 ≤ g) : M_checker_Verify g t c steps = some (verF t c steps) := by
  rw [M_checker_Verify, where_eq t ht c hc steps g hg]
  rfl
end Go.Proofs.YtcpajbglcgbolaaGreat.Am
/- Plain: the law's example. -/
namespace Go.Proofs.YtcpajbglcgbolaaGreat.Am
open Go.RowKit
def ex31 : GTask := { Vars := [2], Init := [0], Goal := [(0, 1)], Ops := [] }
theorem ex31_a : verF ex31 { Bound := -1, Nogoods := [([(0, 1)], 0)] } 100 = .nil := by rfl
theorem ex31_b : verF ex31 { Bound := -1, Nogoods := [] } 100 = .no 13 := by rfl
theorem ex31_sh : ShT ex31 := ⟨by show _ ≤ _; decide, by show _ ≤ _; decide, by show _ ≤ _; decide, by show _ ≤ _; decide, fun o ho => by cases ho⟩
theorem awake_eq (g : Nat) (hg : 70 ≤ g) : M_l31_awake g = some true := by
  rw [M_l31_awake]
  have h1 := verify_eq ex31 ex31_sh { Bound := -1, Nogoods := [([(0, 1)], 0)] } ⟨by show _ ≤ _; decide, fun n hn => by rw [List.mem_singleton.1 hn]; show _ ≤ _; decide⟩ 100 g hg
  have h2 := verify_eq ex31 ex31_sh { Bound := -1, Nogoods := [] } ⟨by show _ ≤ _; decide, fun n hn => by cases hn⟩ 100 g hg
  rw [ex31_a] at h1
  rw [ex31_b] at h2
  unfold ex31 at h1 h2
  rw [h1, ob1_some]
  show ob1 (M_checker_Verify g _ _ 100) _ = _
  rw [h2]
  rfl
end Go.Proofs.YtcpajbglcgbolaaGreat.Am
/- Plain: stratagembase.Tame. -/
namespace Go.Proofs.YtcpajbglcgbolaaGreat.Am
open Go.RowKit
def condN (es : List GEffect) : Nat := (es.filter fun e => decide (0 < e.When.length)).length
theorem condN_le (es : List GEffect) : condN es ≤ es.length := List.length_filter_le _ _
theorem condN_cons (e : GEffect) (es : List GEffect) : condN (e :: es) = (if 0 < e.When.length then 1 else 0) + condN es := by
  unfold condN
  rw [List.filter_cons]
  by_cases h : 0 < e.When.length
  · rw [if_pos (decide_eq_true h), if_pos h, List.length_cons]; omega
  · rw [if_neg (by simpa using h), if_neg h]; omega
def twoF (es : List GEffect) : Bool := es.all fun e => decide (e.When.length ≤ 2)
theorem tame2 (o : GOp) : ∀ (r : List GEffect) (i : Int) (v : Nat), v + r.length ≤ 1000000 → Rg (M_b_Tame_L2_B o) (M_b_Tame_L2_E o) r i v = some (if twoF r = true then .inl ((v + condN r : Nat) : Int) else .inr false)
  | [], i, v, _ => rfl
  | e :: r, i, v, h => by
    rw [List.length_cons] at h
    rw [Rg, M_b_Tame_L2_B, ixv, sel_dec, sel_dec, List.length_map, twoF, List.all_cons, condN_cons]
    by_cases h1 : e.When.length > 2
    · rw [if_pos (by omega), decide_eq_false (by omega), Bool.false_and, if_neg (by decide)]
    · rw [if_neg (by omega), decide_eq_true (p := e.When.length ≤ 2) (by omega), Bool.true_and]
      by_cases h2 : 0 < e.When.length
      · rw [if_pos (by omega), if_pos h2, wrap_eq (by omega) (by omega), show ((v : Int) + 1) = ((v + 1 : Nat) : Int) from rfl, tame2 o r _ (v + 1) (by omega), Nat.add_assoc]; rfl
      · rw [if_neg (by omega), if_neg h2, tame2 o r _ v (by omega), Nat.zero_add]; rfl
def tameO (o : GOp) : Bool := twoF o.Effs && decide (condN o.Effs ≤ 3)
def tameF (t : GTask) : Bool := smallF t && (t.Vars.all (fun n => decide (2 ≤ n ∧ n ≤ 4)) && t.Ops.all tameO)
theorem tame_eq (t : GTask) (ht : ShT t) : M_b_Tame t = some (tameF t) := by
  rw [M_b_Tame, small_eq t ht, ob1_some, tameF]
  cases hs : smallF t with
  | false => rfl
  | true =>
    obtain ⟨hgood, hv, ho⟩ := small_good hs
    have e1 := M_b_Tame_L1_eq t (by omega)
    have e3 := M_b_Tame_L3_eq t (by omega)
    rw [Bool.not_true, sel_ff, e1, rg_all (p := fun n : Int => decide (2 ≤ n ∧ n ≤ 4)) (c := some (.inr false))]
    · cases t.Vars.all fun n => decide (2 ≤ n ∧ n ≤ 4) with
      | false => rfl
      | true =>
        rw [if_pos rfl, M_b_Tame_L1_E, ob1_some, osum_inl, e3, rg_all (p := tameO) (c := some false), M_b_Tame_L3_E]
        · cases t.Ops.all tameO <;> rfl
        · intro o hom i rc
          have hl := (good_op hgood hom).effs
          have e2 := M_b_Tame_L2_eq o 0 (show o.Effs.length < _ by omega)
          have e2' : Rg (M_b_Tame_L2_B o) (M_b_Tame_L2_E o) o.Effs 0 0 = _ := tame2 o o.Effs 0 0 (by omega)
          have hc := condN_le o.Effs
          rw [M_b_Tame_L3_B, ixv, e2, e2', Nat.zero_add, ob1_some, tameO]
          cases twoF o.Effs with
          | false => rfl
          | true =>
            rw [if_pos rfl, osum_inl, sel_dec, Bool.true_and]
            by_cases h3 : condN o.Effs ≤ 3
            · rw [if_neg (by omega), if_pos (decide_eq_true h3)]; rfl
            · rw [if_pos (by omega), if_neg (by simpa using h3)]; rfl
    · intro n _ i rc
      rw [M_b_Tame_L1_B, ixv, sel_dec, sel_dec]
      by_cases h1 : n < 2
      · rw [if_pos h1, if_neg (by rw [decide_eq_true_iff]; omega)]
      · rw [if_neg h1]
        by_cases h2 : n > 4
        · rw [if_pos h2, if_neg (by rw [decide_eq_true_iff]; omega)]
        · rw [if_neg h2, if_pos (by rw [decide_eq_true_iff]; omega)]
theorem tame_small {t : GTask} (h : tameF t = true) : smallF t = true := by
  unfold tameF at h
  rw [Bool.and_eq_true] at h
  exact h.1
end Go.Proofs.YtcpajbglcgbolaaGreat.Am
/- Models printed by my decompiler, and the proofs that the code computes them. -/
namespace Go.Proofs.YtcpajbglcgbolaaGreat.Am
open Go.RowKit
theorem ci_XDStp {p K : Prop} (k : K) (h : p := by first | rfl | exact ⟨rfl, rfl⟩ | exact BW.fr FrV.h | (refine BW.fr ?_; assumption) | (refine ⟨rfl, ?_⟩; (simp [cGTask, cI, cF, cGOp, cGEffect, cGCertificate, cN, take_len_map]; done)) | (refine RowK.same ?_ FrI.h; first | rfl | (simp [cGTask, cI, cF, cGOp, cGEffect, cGCertificate, cN, take_len_map]; done)) | (refine row_part1 ?_; (repeat (first | exact BWL.nil | exact bwll_nil | exact bw_c | exact BW.sl | exact BW.nil | exact bwll_same rfl FrI.h | refine BWL.cons ?_ ?_ | refine bwll_cons ?_ ?_ | (refine bw_own3 rfl rfl rfl FrI.h ?_ ?_ ?_) | exact BW.fr FrV.h | exact BW.fr (by assumption) | refine bw_agg ?_ | refine bw_clo ?_ | refine bw_ptr rfl rfl rfl ?_ | (refine bw_own rfl rfl rfl ?_ FrI.h ?_ ?_) | assumption | omega | rfl | (rw [List.length_map, ← List.length_append]; assumption) | (refine bwll_same ?_ FrI.h; (simp [cGTask, cI, cF, cGOp, cGEffect, cGCertificate, cN] <;> fail)) | (rw [List.map_set]; refine bwll_set (by first | rfl | omega | simp) ?_ ?_) | refine bwll_set (by first | rfl | omega | simp) ?_ ?_ | (rw [List.map_replicate]; refine bwll_rep ?_) | refine bwll_rep ?_ | (rw [List.map_append]; refine bwll_append ?_ ?_) | refine bwll_append ?_ ?_ | (simp [cGTask, cI, cF, cGOp, cGEffect, cGCertificate, cN, take_len_map] <;> fail) | (rw [List.drop_zero, List.take_of_length_le] <;> first | rfl | (simp [cGTask, cI, cF, cGOp, cGEffect, cGCertificate, cN] <;> fail)) | (simp; omega) | (simp only [List.length_map, List.drop_zero, List.length_cons, List.length_nil, Nat.zero_add, Nat.add_zero] at *; omega))); done) | ((repeat (first | exact BWL.nil | exact bwll_nil | exact bw_c | exact BW.sl | exact BW.nil | exact bwll_same rfl FrI.h | refine BWL.cons ?_ ?_ | refine bwll_cons ?_ ?_ | (refine bw_own3 rfl rfl rfl FrI.h ?_ ?_ ?_) | exact BW.fr FrV.h | exact BW.fr (by assumption) | refine bw_agg ?_ | refine bw_clo ?_ | refine bw_ptr rfl rfl rfl ?_ | (refine bw_own rfl rfl rfl ?_ FrI.h ?_ ?_) | assumption | omega | rfl | (rw [List.length_map, ← List.length_append]; assumption) | (refine bwll_same ?_ FrI.h; (simp [cGTask, cI, cF, cGOp, cGEffect, cGCertificate, cN] <;> fail)) | (rw [List.map_set]; refine bwll_set (by first | rfl | omega | simp) ?_ ?_) | refine bwll_set (by first | rfl | omega | simp) ?_ ?_ | (rw [List.map_replicate]; refine bwll_rep ?_) | refine bwll_rep ?_ | (rw [List.map_append]; refine bwll_append ?_ ?_) | refine bwll_append ?_ ?_ | (simp [cGTask, cI, cF, cGOp, cGEffect, cGCertificate, cN, take_len_map] <;> fail) | (rw [List.drop_zero, List.take_of_length_le] <;> first | rfl | (simp [cGTask, cI, cF, cGOp, cGEffect, cGCertificate, cN] <;> fail)) | (simp; omega) | (simp only [List.length_map, List.drop_zero, List.length_cons, List.length_nil, Nat.zero_add, Nat.add_zero] at *; omega))); done) | (simp [cGTask, cI, cF, cGOp, cGEffect, cGCertificate, cN, take_len_map]; done)) : p ∧ K := ⟨h, k⟩
theorem ca_XDStp {P : Prop} (h : P := by repeat (first | exact True.intro | refine ci_XDStp ?_)) : P := h
theorem pr_XDStp {p K : Prop} (k : K) (h : p := by first | assumption | exact Int.natCast_nonneg _ | exact Nat.le_refl _ | exact Nat.zero_le _ | omega | (simp; done) | (simp; omega)) : p ∧ K := ⟨h, k⟩
theorem dr_XDStp {b : Bool} {p K : Prop} (k : K) (h : b = true → p := by intro h; first | (cases h; done) | exact ⟨by kernel_rfl, by kernel_rfl⟩) : (b = true → p) ∧ K := ⟨h, k⟩
theorem cl_XDStp {C : Cx} {n : Nat} {o : Oper} {τ : Nat → AV} {η : Nat → Ent} {f : FuncId} {os : Array Operand} {ats : Array TypeId} {r : AV} {args : List AV} {K : Foot → Prop} (ho : o.op = .call ⟨.value (.func f), os, ats⟩) (hc : ACall C f args r) (k : K ⟨r, [], []⟩)
    (hd : InB n o.dst := by exact Nat.le_of_ble_eq_true rfl) (hargs : os.toList.map (evA τ) = args := by first | rfl | (simp [cGTask, cI, cF, cGOp, cGEffect, cGCertificate, cN]; done) | (repeat (first | exact rfl | refine cons_eq ?_ ?_ | exact sl_dt rfl))) (hfr : frs args := by repeat (first | exact trivial | exact fr1_eA _ | exact fr0_eA _ | exact fr1_fr (by assumption) | exact FrV.h | refine And.intro ?_ ?_)) (hr : fr1 r := by repeat (first | exact trivial | exact fr1_eA _ | exact fr0_eA _ | exact fr1_fr (by assumption) | exact FrV.h | refine And.intro ?_ ?_)) : ∃ f : Foot, LF C n o τ η f ∧ K f := ⟨_, lf_call ho hd hargs hc hfr hr, k⟩
def M_l31_gentle_L1 (y111 : GOp) : Nat → Int → Int → Option (Int)
  | 0, _, _ => none
  | k128 + 1, v126, v127 =>
    sel (decide (v127 < ((y111.Effs.map cGEffect).length : Int)))
     (ix y111.Effs v127 (fun y129 =>
       sel (decide (((y129.When.map cF).length : Int) > 0))
        (M_l31_gentle_L1 y111 k128 (IntKind.i64.wrap (v126 + 1)) (IntKind.i64.wrap (v127 + 1)))
        (M_l31_gentle_L1 y111 k128 v126 (IntKind.i64.wrap (v127 + 1)))))
     (some v126)
def M_l31_gentle_L2 (a0 : GTask) : Nat → Int → Option (Bool)
  | 0, _ => none
  | k89 + 1, v88 =>
    sel (decide (v88 < ((a0.Ops.map cGOp).length : Int)))
     (ob1 (ix a0.Ops v88 (fun y111 =>
        ob1 (M_l31_gentle_L1 y111 ((((y111.Effs.map cGEffect).length : Int)).toNat + 1) 0 0 : Option (Int))
         (fun v120 => sel (decide (v120 > 1))
            (some (.inr false))
            (some (.inl ())))) : Option (Unit ⊕ Bool))
       (osum
       (fun _ => M_l31_gentle_L2 a0 k89 (IntKind.i64.wrap (v88 + 1)))
       (fun r109 => some r109)))
     (some true)
def M_l31_gentle (a0 : GTask) : Option (Bool) :=
  ob1 (ob1 (M_b_Tame a0) (fun z5 =>
    sel (!z5)
     (some (.inr false))
     (ob1 (M_b_Many a0.Vars 100) (fun z6 =>
       sel (decide (z6 > 100))
        (some (.inr false))
        (sel (decide (((a0.Ops.map cGOp).length : Int) > 8))
          (some (.inr false))
          (some (.inl ())))))) : Option (Unit ⊕ Bool))
   (osum
   (fun _ => M_l31_gentle_L2 a0 ((((a0.Ops.map cGOp).length : Int)).toNat + 1) 0)
   (fun r3 => some r3))
set_option maxHeartbeats 16000000 in
set_option maxRecDepth 100000 in
theorem A_l31_gentle (a0 : GTask) {r1 : Bool} (h : M_l31_gentle a0 = some r1) : ACall cx 10 [.agg [.sl 1 (a0.Vars.map cI), .sl 1 (a0.Init.map cI), .sl 2 (a0.Goal.map cF), .sl 4 (a0.Ops.map cGOp)]] (.c (.bool r1)) := by
  refine aOf Tryz.func10 rfl (by decide) rfl (Nat.le_of_ble_eq_true rfl) ?_; intro _; unfold M_l31_gentle at h; refine aSq ?_; refine aRg ?_; intro _; refine dr_XDStp ?_; obtain ⟨o1, h, hK2⟩ := ob1_ok h; refine awp_cut (α := Unit) (fun _ => mkS 47 [(1, .ptr 1 0 0 0)] [(1, ⟨26, 4, true, [[.sl 1 (a0.Vars.map cI), .sl 1 (a0.Init.map cI), .sl 2 (a0.Goal.map cF), .sl 4 (a0.Ops.map cGOp)]]⟩)]) (fun v => o1 = (.inl v)) ?_ ?_
  · refine aSq ?_; refine aRg ?_; intro _; obtain ⟨z5, u3, h⟩ := ob1_ok h; refine cl_XDStp rfl (A_b_Tame a0 u3) ?_; intro _; refine spf h (fun c4 h => ?_) (fun c4 h => ?_)
    · intro _; obtain ⟨z6, u5, h⟩ := ob1_ok h; refine cl_XDStp rfl (A_b_Many a0.Vars 100 u5) ?_; intro _; refine spf h (fun c6 h => ?_) (fun c6 h => ?_)
      · intro _; refine dr_XDStp ?_; refine aCd ?_; intro _; refine spl h (fun c7 h => ?_) (fun c7 h => ?_)
        · refine aSq ?_; refine aRg ?_; intro _; refine dr_XDStp ?_; refine aRt ?_; have j8 := Option.some.inj h; subst j8; replace h := (osum_r hK2); intro _; obtain rfl := inj1 h; exact ca_XDStp
        · refine aSk ?_; refine ⟨(), (Option.some.inj h).symm, ?_⟩; exact ca_XDStp
      · intro _; refine dr_XDStp ?_; refine aCd ?_; intro _; refine litT ?_; refine aSq ?_; refine aRg ?_; intro _; refine dr_XDStp ?_; refine aRt ?_; have j9 := Option.some.inj h; subst j9; replace h := (osum_r hK2); intro _; obtain rfl := inj1 h; exact ca_XDStp
    · intro _; refine dr_XDStp ?_; refine aCd ?_; intro _; refine litT ?_; refine aSq ?_; refine aRg ?_; intro _; refine dr_XDStp ?_; refine aRt ?_; have j10 := Option.some.inj h; subst j10; replace h := (osum_r hK2); intro _; obtain rfl := inj1 h; exact ca_XDStp
  · rintro _ ho; have ho := ho.symm; subst ho; intro _; replace h := (osum_l hK2); refine aSq ?_; refine aSq ?_; refine aRg ?_; intro _; refine dr_XDStp ?_; refine aBk ?_; refine awp_loop (α := Nat × Int) (fun x => mkS 47 [(24, .sl 4 (a0.Ops.map cGOp)), (25, .c (.int .i64 ((a0.Ops.map cGOp).length : Int))), (26, .c (.int .i64 x.2))] []) (fun x => M_l31_gentle_L2 a0 x.1 x.2 = some r1) (fun x => x.1) ((((a0.Ops.map cGOp).length : Int)).toNat + 1, 0) h ?_ ?_
    · exact ca_XDStp
    · intro x11 h; intro _; obtain ⟨k89, m12, h⟩ := succ_of (f := fun n => M_l31_gentle_L2 a0 n x11.2) rfl h; replace h : M_l31_gentle_L2 a0 (k89 + 1) x11.2 = some r1 := h; rw [M_l31_gentle_L2] at h; refine aSq ?_; refine aRg ?_; intro _; refine dr_XDStp ?_; refine aSq ?_; refine aCd ?_; intro _; refine spl h (fun c13 h => ?_) (fun c13 h => ?_)
      · refine aSk ?_; obtain ⟨o14, h, hK15⟩ := ob1_ok h; refine awp_cut (α := Unit) (fun _ => mkS 47 [(24, .sl 4 (a0.Ops.map cGOp)), (25, .c (.int .i64 ((a0.Ops.map cGOp).length : Int))), (26, .c (.int .i64 x11.2))] []) (fun v => o14 = (.inl v)) ?_ ?_
        · refine aBk ?_; refine aSq ?_; refine aRg ?_; intro _; obtain ⟨y111, w16, q17, h⟩ := ix_ok h; refine Exists.intro (cGOp y111) (And.intro (map_at' w16) ?_); intro _; refine pr_XDStp ?_; refine dr_XDStp ?_; refine aSq ?_; refine aRg ?_; intro _; refine dr_XDStp ?_; obtain ⟨o18, h, hK19⟩ := ob1_ok h; refine awp_cut (α := Int) (fun v120 => mkS 47 [(5, .c (.int .i64 v120)), (24, .sl 4 (a0.Ops.map cGOp)), (25, .c (.int .i64 ((a0.Ops.map cGOp).length : Int))), (26, .c (.int .i64 x11.2))] []) (fun v => o18 = v) ?_ ?_
          · refine aSq ?_; refine aRg ?_; intro _; refine dr_XDStp ?_; refine aBk ?_; refine awp_loop (α := Nat × Int × Int) (fun x => mkS 47 [(5, .c (.int .i64 x.2.1)), (24, .sl 4 (a0.Ops.map cGOp)), (25, .c (.int .i64 ((a0.Ops.map cGOp).length : Int))), (26, .c (.int .i64 x11.2)), (31, .sl 3 (y111.Effs.map cGEffect)), (32, .c (.int .i64 ((y111.Effs.map cGEffect).length : Int))), (33, .c (.int .i64 x.2.2))] []) (fun x => M_l31_gentle_L1 y111 x.1 x.2.1 x.2.2 = some o18) (fun x => x.1) ((((y111.Effs.map cGEffect).length : Int)).toNat + 1, 0, 0) h ?_ ?_
            · exact ca_XDStp
            · intro x20 h; intro _; obtain ⟨k128, m21, h⟩ := succ_of (f := fun n => M_l31_gentle_L1 y111 n x20.2.1 x20.2.2) rfl h; replace h : M_l31_gentle_L1 y111 (k128 + 1) x20.2.1 x20.2.2 = some o18 := h; rw [M_l31_gentle_L1] at h; refine aSq ?_; refine aRg ?_; intro _; refine dr_XDStp ?_; refine aSq ?_; refine aCd ?_; intro _; refine spl h (fun c22 h => ?_) (fun c22 h => ?_)
              · refine aSk ?_; refine aSq ?_; refine aBk ?_; refine aSq ?_; refine aRg ?_; intro _; obtain ⟨y129, w23, q24, h⟩ := ix_ok h; refine Exists.intro (cGEffect y129) (And.intro (map_at' w23) ?_); intro _; refine pr_XDStp ?_; refine dr_XDStp ?_; refine aSq ?_; refine aRg ?_; intro _; refine dr_XDStp ?_; refine aCd ?_; intro _; refine spl h (fun c25 h => ?_) (fun c25 h => ?_)
                · refine aRg ?_; intro _; refine dr_XDStp ?_; refine aRg ?_; intro _; refine dr_XDStp ?_; refine ⟨(k128, (IntKind.i64.wrap (x20.2.1 + 1)), (IntKind.i64.wrap (x20.2.2 + 1))), h, ltS m21, ?_⟩; exact ca_XDStp
                · refine aSk ?_; refine aRg ?_; intro _; refine dr_XDStp ?_; refine ⟨(k128, x20.2.1, (IntKind.i64.wrap (x20.2.2 + 1))), h, ltS m21, ?_⟩; exact ca_XDStp
              · refine aEx ?_; refine ⟨x20.2.1, (Option.some.inj h).symm, ?_⟩; exact ca_XDStp
          · rintro v120 ho; have ho := ho.symm; subst ho; intro _; replace h := hK19; refine aSq ?_; refine aRg ?_; intro _; refine dr_XDStp ?_; refine aCd ?_; intro _; refine spl h (fun c26 h => ?_) (fun c26 h => ?_)
            · refine aSq ?_; refine aRg ?_; intro _; refine dr_XDStp ?_; refine aRt ?_; have j27 := Option.some.inj h; subst j27; replace h := (osum_r hK15); intro _; obtain rfl := inj1 h; exact ca_XDStp
            · refine aSk ?_; refine ⟨(), (Option.some.inj h).symm, ?_⟩; exact ca_XDStp
        · rintro _ ho; have ho := ho.symm; subst ho; intro _; replace h := (osum_l hK15); refine aRg ?_; intro _; refine dr_XDStp ?_; refine ⟨(k89, (IntKind.i64.wrap (x11.2 + 1))), h, ltS m12, ?_⟩; exact ca_XDStp
      · refine aEx ?_; refine aSq ?_; refine aRg ?_; intro _; refine dr_XDStp ?_; refine aRt ?_; intro _; obtain rfl := inj1 h; exact ca_XDStp
end Go.Proofs.YtcpajbglcgbolaaGreat.Am
/- Range loops of the models as recursions. -/
namespace Go.Proofs.YtcpajbglcgbolaaGreat.Am
def M_l31_gentle_L1_B (_ : GOp) (_y129 : GEffect) (_ : Int) : ((Int)) → (((Int)) → Option (Int)) → Option (Int) := fun v126 rc => ixv _y129 (fun y129 =>
       sel (decide (((y129.When.map cF).length : Int) > 0))
        (rc ((IntKind.i64.wrap (v126 + 1))))
        (rc (v126)))
def M_l31_gentle_L1_E (_ : GOp) : ((Int)) → Option (Int) := fun v126 => some v126
theorem M_l31_gentle_L1_rg (y111 : GOp) (hl : y111.Effs.length < 9223372036854775807) : ∀ (k n : Nat) (v126 : Int), n ≤ y111.Effs.length → y111.Effs.length < k + n → M_l31_gentle_L1 y111 k v126 (n : Int) = Rg (M_l31_gentle_L1_B y111) (M_l31_gentle_L1_E y111) (y111.Effs.drop n) n v126 := by
  intro k n v126
  refine rg_of (L := fun k i (p : ((Int))) => match p with | v126 => M_l31_gentle_L1 y111 k v126 i) hl (fun k n p y hy hn => ?_) (fun k p => ?_) k n v126
  · have h1 := lt_some hy
    have h2 := w64s hn
    first | (simp only [M_l31_gentle_L1, M_l31_gentle_L1_B, List.length_map, decide_lt h1, sel, ix_at hy, ixv, h2]; done) | (simp only [List.length_map] at h1 hy; simp only [M_l31_gentle_L1, M_l31_gentle_L1_B, List.length_map, decide_lt h1, sel, ix_at hy, ixv, h2]; done)
  · simp only [M_l31_gentle_L1, M_l31_gentle_L1_E, List.length_map, decide_ge, sel]
theorem M_l31_gentle_L1_eq (y111 : GOp) (v126 : Int) (hl : y111.Effs.length < 9223372036854775807) : M_l31_gentle_L1 y111 (((y111.Effs.map cGEffect).length : Int).toNat + 1) v126 0 = Rg (M_l31_gentle_L1_B y111) (M_l31_gentle_L1_E y111) y111.Effs 0 v126 := by
  have h := M_l31_gentle_L1_rg y111 hl (y111.Effs.length + 1) 0 v126 (Nat.zero_le _) (by omega)
  rw [List.length_map, Int.toNat_natCast]
  exact h
def M_l31_gentle_L2_B (_ : GTask) (_y111 : GOp) (_ : Int) : Unit → (Unit → Option (Bool)) → Option (Bool) := fun _ rc => ob1 (ixv _y111 (fun y111 =>
        ob1 (M_l31_gentle_L1 y111 ((((y111.Effs.map cGEffect).length : Int)).toNat + 1) 0 0 : Option (Int))
         (fun v120 => sel (decide (v120 > 1))
            (some (.inr false))
            (some (.inl ())))) : Option (Unit ⊕ Bool))
       (osum
       (fun _ => rc ())
       (fun r109 => some r109))
def M_l31_gentle_L2_E (_ : GTask) : Unit → Option (Bool) := fun _ => some true
theorem M_l31_gentle_L2_rg (a0 : GTask) (hl : a0.Ops.length < 9223372036854775807) : ∀ (k n : Nat) , n ≤ a0.Ops.length → a0.Ops.length < k + n → M_l31_gentle_L2 a0 k (n : Int) = Rg (M_l31_gentle_L2_B a0) (M_l31_gentle_L2_E a0) (a0.Ops.drop n) n () := by
  intro k n 
  refine rg_of (L := fun k i (p : Unit) => M_l31_gentle_L2 a0 k i) hl (fun k n p y hy hn => ?_) (fun k p => ?_) k n ()
  · have h1 := lt_some hy
    have h2 := w64s hn
    first | (simp only [M_l31_gentle_L2, M_l31_gentle_L2_B, List.length_map, decide_lt h1, sel, ix_at hy, ixv, h2]; done) | (simp only [List.length_map] at h1 hy; simp only [M_l31_gentle_L2, M_l31_gentle_L2_B, List.length_map, decide_lt h1, sel, ix_at hy, ixv, h2]; done)
  · simp only [M_l31_gentle_L2, M_l31_gentle_L2_E, List.length_map, decide_ge, sel]
theorem M_l31_gentle_L2_eq (a0 : GTask)  (hl : a0.Ops.length < 9223372036854775807) : M_l31_gentle_L2 a0 (((a0.Ops.map cGOp).length : Int).toNat + 1) 0 = Rg (M_l31_gentle_L2_B a0) (M_l31_gentle_L2_E a0) a0.Ops 0 () := by
  have h := M_l31_gentle_L2_rg a0 hl (a0.Ops.length + 1) 0  (Nat.zero_le _) (by omega)
  rw [List.length_map, Int.toNat_natCast]
  exact h
end Go.Proofs.YtcpajbglcgbolaaGreat.Am
/- Plain: the laws' gentle, few. -/
namespace Go.Proofs.YtcpajbglcgbolaaGreat.Am
open Go.RowKit
def gentleF (t : GTask) : Bool := tameF t && (decide (manyF 100 t.Vars 1 ≤ 100) && (decide (t.Ops.length ≤ 8) && t.Ops.all fun o => decide (condN o.Effs ≤ 1)))
theorem gentle1 (o : GOp) : ∀ (r : List GEffect) (i : Int) (v : Nat), v + r.length ≤ 1000000 → Rg (M_l31_gentle_L1_B o) (M_l31_gentle_L1_E o) r i v = some ((v + condN r : Nat) : Int)
  | [], i, v, _ => rfl
  | e :: r, i, v, h => by
    rw [List.length_cons] at h
    rw [Rg, M_l31_gentle_L1_B, ixv, sel_dec, List.length_map, condN_cons]
    by_cases h2 : 0 < e.When.length
    · rw [if_pos (by omega), if_pos h2, wrap_eq (by omega) (by omega), show ((v : Int) + 1) = ((v + 1 : Nat) : Int) from rfl, gentle1 o r _ (v + 1) (by omega), Nat.add_assoc]
    · rw [if_neg (by omega), if_neg h2, gentle1 o r _ v (by omega), Nat.zero_add]
theorem gentle_tame {t : GTask} (h : gentleF t = true) : tameF t = true := by
  unfold gentleF at h
  rw [Bool.and_eq_true] at h
  exact h.1
theorem gentle_eq (t : GTask) (ht : ShT t) : M_l31_gentle t = some (gentleF t) := by
  rw [M_l31_gentle, tame_eq t ht, gentleF]
  cases hs : tameF t with
  | false => rfl
  | true =>
    obtain ⟨hgood, hv, ho⟩ := small_good (tame_small hs)
    rw [ob1_some, Bool.not_true, sel_ff, many_eq t.Vars ht.vars 100 (by decide), ob1_some, sel_dec, Bool.true_and]
    by_cases h1 : manyF 100 t.Vars 1 ≤ 100
    · rw [if_neg (by omega), decide_eq_true h1, Bool.true_and, sel_dec, List.length_map]
      by_cases h2 : t.Ops.length ≤ 8
      · have e2 := M_l31_gentle_L2_eq t (by omega)
        rw [List.length_map] at e2
        rw [if_neg (by omega), decide_eq_true h2, Bool.true_and, ob1_some, osum_inl, e2, rg_all (p := fun o : GOp => decide (condN o.Effs ≤ 1)) (c := some false), M_l31_gentle_L2_E]
        · cases t.Ops.all fun o => decide (condN o.Effs ≤ 1) <;> rfl
        · intro o hom i rc
          have hl := (good_op hgood hom).effs
          have e1 := M_l31_gentle_L1_eq o 0 (show o.Effs.length < _ by omega)
          have e1' : Rg (M_l31_gentle_L1_B o) (M_l31_gentle_L1_E o) o.Effs 0 0 = _ := gentle1 o o.Effs 0 0 (by omega)
          rw [M_l31_gentle_L2_B, ixv, e1, e1', Nat.zero_add, ob1_some, sel_dec]
          by_cases h3 : condN o.Effs ≤ 1
          · rw [if_neg (by omega), if_pos (decide_eq_true h3)]; rfl
          · rw [if_pos (by omega), if_neg (by simpa using h3)]; rfl
      · rw [if_pos (by omega), decide_eq_false h2]; rfl
    · rw [if_pos (by omega), decide_eq_false h1]; rfl
end Go.Proofs.YtcpajbglcgbolaaGreat.Am
/- Plain: how long a regression is, of an operator with at most one effect with conditions. -/
namespace Go.Proofs.YtcpajbglcgbolaaGreat.Am
open Go.RowKit
theorem joinLL_sub {a b : List (List Fact)} {z : List Fact} (h : z ∈ joinLL a b) : ∃ x ∈ a, ∃ y ∈ b, ∀ w, w ∈ z ↔ w ∈ x ∨ w ∈ y := by
  obtain ⟨x, hx, y, hy, hj⟩ := (joinLL_mem z a b).1 h
  exact ⟨x, hx, y, hy, (joinO_some hj).2⟩
/-- at most one effect has conditions: on the variable v, the conditions w -/
structure OneC (v : Int) (w : List Fact) (es : List GEffect) : Prop where
  one : condN es ≤ 1
  is : ∀ e ∈ es, 0 < e.When.length → e.Var = v ∧ e.When = w
theorem condN_zero {es : List GEffect} (h : condN es = 0) : ∀ e ∈ es, e.When = [] := fun e he => by
  refine Decidable.byContradiction fun hne => ?_
  have : e ∈ es.filter fun e => decide (0 < e.When.length) := List.mem_filter.2 ⟨he, decide_eq_true (List.length_pos_iff.2 hne)⟩
  have := List.length_pos_of_mem this
  unfold condN at h
  omega
theorem OneC.tail {v : Int} {w : List Fact} {e : GEffect} {es : List GEffect} (h : OneC v w (e :: es)) : OneC v w es := by
  have h1 := h.one
  rw [condN_cons] at h1
  exact ⟨by omega, fun u hu => h.is u (List.mem_cons_of_mem _ hu)⟩
theorem OneC.rest {v : Int} {w : List Fact} {e : GEffect} {es : List GEffect} (h : OneC v w (e :: es)) (he : e.When ≠ []) : e.When = w ∧ ∀ u ∈ es, u.When = [] := by
  have h1 := h.one
  have hp := List.length_pos_iff.2 he
  rw [condN_cons, if_pos hp] at h1
  exact ⟨(h.is e (List.mem_cons_self ..) hp).2, condN_zero (by omega)⟩
theorem oneC_of {es : List GEffect} (h : condN es ≤ 1) (h2 : twoF es = true) : ∃ v w, w.length ≤ 2 ∧ OneC v w es := by
  by_cases h0 : condN es = 0
  · exact ⟨0, [], by decide, h, fun e he hp => by rw [condN_zero h0 e he] at hp; exact absurd hp (by decide)⟩
  · have h1 : (es.filter fun e => decide (0 < e.When.length)).length = 1 := by unfold condN at h h0; omega
    obtain ⟨e0, he0⟩ := List.length_eq_one_iff.1 h1
    have hm : e0 ∈ es.filter fun e => decide (0 < e.When.length) := by rw [he0]; exact List.mem_singleton.2 rfl
    refine ⟨e0.Var, e0.When, of_decide_eq_true (List.all_eq_true.1 h2 e0 (List.mem_filter.1 hm).1), h, fun e he hp => ?_⟩
    have : e ∈ es.filter fun e => decide (0 < e.When.length) := List.mem_filter.2 ⟨he, decide_eq_true hp⟩
    rw [he0, List.mem_singleton] at this
    rw [this]; exact ⟨rfl, rfl⟩
theorem OneC.filter {v : Int} {w : List Fact} {es : List GEffect} (h : OneC v w es) (p : GEffect → Bool) : OneC v w (es.filter p) := by
  refine ⟨?_, fun e he => h.is e (List.mem_filter.1 he).1⟩
  refine Nat.le_trans ?_ h.one
  unfold condN
  rw [List.filter_filter]
  have : (es.filter fun a => decide (0 < a.When.length) && p a) = (es.filter fun a => decide (0 < a.When.length)).filter p := by
    rw [List.filter_filter]
    exact List.filter_congr fun a _ => Bool.and_comm _ _
  rw [this]
  exact List.length_filter_le _ _
theorem joinX_nil (x : List Fact) (out : List (List Fact)) : joinX x [] out = out := rfl
theorem joinXX_nil : ∀ (a out : List (List Fact)), joinXX a [] out = out
  | [], _ => rfl
  | x :: r, out => by rw [joinXX, joinX_nil, joinXX_nil r]
theorem joinLL_nil (a : List (List Fact)) : joinLL a [] = [] := joinXX_nil a []
theorem joinX_le (x : List Fact) : ∀ (b out : List (List Fact)), (joinX x b out).length ≤ out.length + b.length
  | [], out => by rw [joinX]; simp
  | y :: r, out => by
    rw [joinX, List.length_cons]
    refine Nat.le_trans (joinX_le x r _) ?_
    split
    · have : (addN out ‹_›).length ≤ out.length + 1 := by unfold addN; split <;> simp
      omega
    · omega
theorem joinXX_le : ∀ (a b out : List (List Fact)), (joinXX a b out).length ≤ out.length + a.length * b.length
  | [], b, out => by rw [joinXX]; simp
  | x :: r, b, out => by
    have h1 := joinXX_le r b (joinX x b out)
    have h2 := joinX_le x b out
    rw [joinXX, List.length_cons, Nat.add_mul]
    omega
theorem joinLL_le (a b : List (List Fact)) : (joinLL a b).length ≤ a.length * b.length := by
  have := joinXX_le a b []
  rw [List.length_nil, Nat.zero_add] at this
  exact this
theorem silF_le {vars : List Int} (hd : ∀ n ∈ vars, n ≤ 4) : ∀ w : List Fact, (silF vars w).length ≤ w.length * 4
  | [] => Nat.le_refl _
  | f :: r => by
    have ih := silF_le hd r
    unfold silF at ih ⊢
    rw [List.flatMap_cons, List.length_append, List.length_cons]
    have h1 := silOne_len f (vars.getD f.1.toNat 0).toNat 0
    have h2 : vars.getD f.1.toNat 0 ≤ 4 := by
      rw [List.getD_eq_getElem?_getD]
      cases hg : vars[f.1.toNat]? with
      | none => simp
      | some n => exact hd n (List.mem_of_getElem? hg)
    omega
theorem capO_of {l : List (List Fact)} (h : l.length ≤ 1024) : capO l = some l := if_pos h
/-- no effect has conditions -/
theorem quiet0 {vars : List Int} {f : Fact} : ∀ (es : List GEffect) (l : List (List Fact)), (∀ e ∈ es, e.When = []) → ∃ j, quietG vars f es l = some j ∧ (j = l ∨ j = [])
  | [], l, _ => ⟨l, rfl, .inl rfl⟩
  | e :: r, l, h => by
    have hr : ∀ u ∈ r, u.When = [] := fun u hu => h u (List.mem_cons_of_mem _ hu)
    rw [quietG]
    split
    · exact quiet0 r l hr
    · rw [h e (List.mem_cons_self ..)]
      have e1 : silF vars [] = [] := rfl
      rw [e1, capO_of (by decide), Option.bind_some, joinLL_nil, capO_of (by decide), Option.bind_some]
      obtain ⟨j, hj, h2⟩ := quiet0 (vars := vars) (f := f) r [] hr
      exact ⟨j, hj, .inr (by rcases h2 with h2 | h2 <;> exact h2)⟩
theorem quiet1 {vars : List Int} {f : Fact} {v : Int} {w : List Fact} (hs : (silF vars w).length ≤ 8) : ∀ (es : List GEffect) (x : List Fact), OneC v w es → ∃ j, quietG vars f es [x] = some j ∧ (j = [x] ∨ j = [] ∨ j = joinLL [x] (silF vars w))
  | [], x, _ => ⟨[x], rfl, .inl rfl⟩
  | e :: r, x, h => by
    rw [quietG]
    split
    · exact quiet1 hs r x h.tail
    · by_cases he : e.When = []
      · rw [he]
        have e1 : silF vars [] = [] := rfl
        rw [e1, capO_of (by decide), Option.bind_some, joinLL_nil, capO_of (by decide), Option.bind_some]
        -- the rest, of an empty list
        have key : ∀ (es : List GEffect), OneC v w es → ∃ j, quietG vars f es [] = some j ∧ j = [] := by
          intro es
          induction es with
          | nil => intro _; exact ⟨[], rfl, rfl⟩
          | cons u r ih =>
            intro hu
            rw [quietG]
            split
            · exact ih hu.tail
            · have hsl : (silF vars u.When).length ≤ 8 := by
                by_cases hw : u.When = []
                · rw [hw]; exact Nat.zero_le _
                · rw [(hu.rest hw).1]; exact hs
              rw [capO_of (by omega), Option.bind_some]
              have : joinLL [] (silF vars u.When) = [] := rfl
              rw [this, capO_of (by decide), Option.bind_some]
              exact ih hu.tail
        obtain ⟨j, hj, h2⟩ := key r h.tail
        exact ⟨j, hj, .inr (.inl h2)⟩
      · obtain ⟨hw, hr⟩ := h.rest he
        have hjl := joinLL_le [x] (silF vars w)
        rw [List.length_singleton, Nat.one_mul] at hjl
        rw [hw, capO_of (by omega), Option.bind_some, capO_of (by omega), Option.bind_some]
        obtain ⟨j, hj, h2⟩ := quiet0 (vars := vars) (f := f) r (joinLL [x] (silF vars w)) hr
        exact ⟨j, hj, by rcases h2 with h2 | h2; exact .inr (.inr h2); exact .inr (.inl h2)⟩
theorem foldN_nodup {α : Type} [DecidableEq α] : ∀ (l out : List α), out.Nodup → (l.foldl addN out).Nodup
  | [], _, h => h
  | y :: r, out, h => foldN_nodup r _ (addN_nodup h y)
/-- lists without repetition, by what they hold -/
theorem nodup_le {α : Type} [DecidableEq α] : ∀ (l u : List α), l.Nodup → (∀ x ∈ l, x ∈ u) → l.length ≤ u.length
  | [], _, _, _ => Nat.zero_le _
  | x :: r, u, hn, hs => by
    obtain ⟨h1, h2⟩ := List.nodup_cons.1 hn
    have hx := hs x (List.mem_cons_self ..)
    have ih := nodup_le r (u.erase x) h2 (fun y hy => (List.mem_erase_of_ne (fun e : y = x => h1 (e ▸ hy))).2 (hs y (List.mem_cons_of_mem _ hy)))
    rw [List.length_erase_of_mem hx] at ih
    have := List.length_pos_of_mem hx
    rw [List.length_cons]; omega
theorem cases0 {vars : List Int} {f : Fact} : ∀ (es : List GEffect), (∀ e ∈ es, e.When = []) → ∃ out, casesG vars f es = some out ∧ out.Nodup ∧ ∀ z ∈ out, z = []
  | [], _ => ⟨[], rfl, List.nodup_nil, fun z hz => by cases hz⟩
  | e :: r, h => by
    obtain ⟨out, ho, hn, hz⟩ := cases0 (vars := vars) (f := f) r (fun u hu => h u (List.mem_cons_of_mem _ hu))
    rw [casesG, ho, Option.bind_some]
    split
    · obtain ⟨j, hj, hj2⟩ := quiet0 (vars := vars) (f := f) r [e.When] (fun u hu => h u (List.mem_cons_of_mem _ hu))
      rw [hj, Option.map_some]
      refine ⟨_, rfl, foldN_nodup _ _ hn, fun z hzm => ?_⟩
      rcases (foldN_mem z j out).1 hzm with hzm | hzm
      · exact hz z hzm
      · rcases hj2 with rfl | rfl
        · rw [List.mem_singleton.1 hzm]; exact h e (List.mem_cons_self ..)
        · cases hzm
    · exact ⟨out, rfl, hn, hz⟩
def uL (vars : List Int) (w : List Fact) : List (List Fact) := [] :: w :: joinLL [[]] (silF vars w)
theorem cases1c {vars : List Int} {f : Fact} {v : Int} {w : List Fact} (hs : (silF vars w).length ≤ 8) : ∀ (es : List GEffect), OneC v w es → ∃ out, casesG vars f es = some out ∧ out.Nodup ∧ ∀ z ∈ out, z ∈ uL vars w
  | [], _ => ⟨[], rfl, List.nodup_nil, fun z hz => by cases hz⟩
  | e :: r, h => by
    obtain ⟨out, ho, hn, hz⟩ := cases1c (f := f) hs r h.tail
    rw [casesG, ho, Option.bind_some]
    split
    · by_cases he : e.When = []
      · obtain ⟨j, hj, hj2⟩ := quiet1 (f := f) hs r e.When h.tail
        rw [hj, Option.map_some]
        refine ⟨_, rfl, foldN_nodup _ _ hn, fun z hzm => ?_⟩
        rcases (foldN_mem z j out).1 hzm with hzm | hzm
        · exact hz z hzm
        · rw [he] at hj2
          rcases hj2 with rfl | rfl | rfl
          · rw [List.mem_singleton.1 hzm]; exact List.mem_cons_self ..
          · cases hzm
          · exact List.mem_cons_of_mem _ (List.mem_cons_of_mem _ hzm)
      · obtain ⟨hw, hr⟩ := h.rest he
        obtain ⟨j, hj, hj2⟩ := quiet0 (vars := vars) (f := f) r [e.When] hr
        rw [hj, Option.map_some]
        refine ⟨_, rfl, foldN_nodup _ _ hn, fun z hzm => ?_⟩
        rcases (foldN_mem z j out).1 hzm with hzm | hzm
        · exact hz z hzm
        · rcases hj2 with rfl | rfl
          · rw [List.mem_singleton.1 hzm, hw]; exact List.mem_cons_of_mem _ (List.mem_cons_self ..)
          · cases hzm
    · exact ⟨out, rfl, hn, hz⟩
def uF (vars : List Int) (w : List Fact) (f : Fact) : List (List Fact) := [f] :: (uL vars w ++ joinLL [[f]] (silF vars w))
theorem uF_len {vars : List Int} {w : List Fact} (hs : (silF vars w).length ≤ 8) (f : Fact) : (uF vars w f).length ≤ 19 := by
  have h1 := joinLL_le [[]] (silF vars w)
  have h2 := joinLL_le [[f]] (silF vars w)
  rw [List.length_singleton, Nat.one_mul] at h1 h2
  unfold uF uL
  simp only [List.length_cons, List.length_append]
  omega
/-- the cases of a fact whose variable no effect with conditions sets -/
theorem casesO_0 {vars : List Int} {o : GOp} {f : Fact} (h : ∀ e ∈ o.Effs, e.Var = f.1 → e.When = []) : ∃ c, casesO vars o f = some c ∧ c.length ≤ 2 ∧ ∀ z ∈ c, z = [] ∨ z = [f] := by
  have hw : ∀ e ∈ o.Effs.filter (fun e => e.Var == f.1), e.When = [] := fun e he => by
    obtain ⟨h1, h2⟩ := List.mem_filter.1 he
    exact h e h1 (by simpa using h2)
  obtain ⟨out, ho, hn, hz⟩ := cases0 (vars := vars) (f := f) _ hw
  obtain ⟨j, hj, hj2⟩ := quiet0 (vars := vars) (f := f) _ [[f]] hw
  have hmem : ∀ z ∈ j.foldl addN out, z = [] ∨ z = [f] := fun z hzm => by
    rcases (foldN_mem z j out).1 hzm with hzm | hzm
    · exact .inl (hz z hzm)
    · rcases hj2 with rfl | rfl
      · exact .inr (List.mem_singleton.1 hzm)
      · cases hzm
  have hlen : (j.foldl addN out).length ≤ 2 := nodup_le _ [[], [f]] (foldN_nodup _ _ hn) (fun z hzm => by rcases hmem z hzm with rfl | rfl <;> simp)
  refine ⟨j.foldl addN out, ?_, hlen, hmem⟩
  rw [casesO, casesE, ho, Option.bind_some, hj, Option.map_some, Option.bind_some, capO_of (by omega)]
theorem casesO_1 {vars : List Int} {o : GOp} {f : Fact} {v : Int} {w : List Fact} (hs : (silF vars w).length ≤ 8) (h : OneC v w o.Effs) : ∃ c, casesO vars o f = some c ∧ c.length ≤ 19 ∧ ∀ z ∈ c, z ∈ uF vars w f := by
  have hw := h.filter (fun e => e.Var == f.1)
  obtain ⟨out, ho, hn, hz⟩ := cases1c (f := f) hs _ hw
  obtain ⟨j, hj, hj2⟩ := quiet1 (f := f) hs _ [f] hw
  have hmem : ∀ z ∈ j.foldl addN out, z ∈ uF vars w f := fun z hzm => by
    rcases (foldN_mem z j out).1 hzm with hzm | hzm
    · exact List.mem_cons_of_mem _ (List.mem_append.2 (.inl (hz z hzm)))
    · rcases hj2 with rfl | rfl | rfl
      · rw [List.mem_singleton.1 hzm]; exact List.mem_cons_self ..
      · cases hzm
      · exact List.mem_cons_of_mem _ (List.mem_append.2 (.inr hzm))
  have hlen : (j.foldl addN out).length ≤ 19 := Nat.le_trans (nodup_le _ _ (foldN_nodup _ _ hn) hmem) (uF_len hs f)
  refine ⟨j.foldl addN out, ?_, hlen, hmem⟩
  rw [casesO, casesE, ho, Option.bind_some, hj, Option.map_some, Option.bind_some, capO_of (by omega)]
/-- there are never too many cases -/
theorem regG_some {vars : List Int} {o : GOp} {v : Int} {w : List Fact} (hs : (silF vars w).length ≤ 8) (h : OneC v w o.Effs) : ∀ (p : List Fact) (l : List (List Fact)) (c : Nat), Asc p → ((∃ f ∈ p, f.1 = v) → 10 ≤ c) → 1 ≤ c → l.length * (2 ^ p.length * c) ≤ 1024 → ∃ j, regG vars o p l = some j
  | [], l, c, _, _, _, _ => ⟨l, rfl⟩
  | f :: r, l, c, ha, hc, h1, hl => by
    obtain ⟨ha1, ha2⟩ := List.pairwise_cons.1 ha
    rw [List.length_cons, Nat.pow_succ] at hl
    have hp : 1 ≤ 2 ^ r.length := Nat.one_le_two_pow
    by_cases hv : f.1 = v
    · obtain ⟨cs, hcs, hlen, -⟩ := casesO_1 (f := f) hs h
      have hj := joinLL_le l cs
      have hc10 := hc ⟨f, List.mem_cons_self .., hv⟩
      have hm : (joinLL l cs).length * 2 ^ r.length ≤ 1024 := by
        have a1 : (joinLL l cs).length ≤ l.length * 20 := Nat.le_trans hj (Nat.mul_le_mul_left _ (by omega))
        have a2 : l.length * 20 * 2 ^ r.length ≤ l.length * (2 ^ r.length * 2 * c) := by
          rw [Nat.mul_assoc]
          refine Nat.mul_le_mul_left _ ?_
          rw [Nat.mul_comm 20, Nat.mul_assoc]
          exact Nat.mul_le_mul_left _ (by omega)
        exact Nat.le_trans (Nat.mul_le_mul_right _ a1) (Nat.le_trans a2 hl)
      have hcap : (joinLL l cs).length ≤ 1024 := Nat.le_trans (Nat.le_mul_of_pos_right _ hp) hm
      rw [regG, hcs, Option.bind_some, capO_of hcap, Option.bind_some]
      refine regG_some hs h r _ 1 ha2 ?_ (Nat.le_refl _) (by rw [Nat.mul_one]; exact hm)
      rintro ⟨u, hu, e⟩
      have := ha1 u hu
      omega
    · obtain ⟨cs, hcs, hlen, -⟩ := casesO_0 (vars := vars) (o := o) (f := f) (fun e he hev => Decidable.byContradiction fun hne => by
        have := (h.is e he (List.length_pos_iff.2 hne)).1
        omega)
      have hj := joinLL_le l cs
      have hm : (joinLL l cs).length * (2 ^ r.length * c) ≤ 1024 := by
        have a1 : (joinLL l cs).length ≤ l.length * 2 := Nat.le_trans hj (Nat.mul_le_mul_left _ hlen)
        have a2 : l.length * 2 * (2 ^ r.length * c) = l.length * (2 ^ r.length * 2 * c) := by
          rw [Nat.mul_assoc, ← Nat.mul_assoc 2, Nat.mul_comm 2]
        exact Nat.le_trans (Nat.mul_le_mul_right _ a1) (by rw [a2]; exact hl)
      have hpc : 1 ≤ 2 ^ r.length * c := Nat.mul_pos hp h1
      have hcap : (joinLL l cs).length ≤ 1024 := Nat.le_trans (Nat.le_mul_of_pos_right _ hpc) hm
      rw [regG, hcs, Option.bind_some, capO_of hcap, Option.bind_some]
      exact regG_some hs h r _ c ha2 (fun ⟨u, hu, e⟩ => hc ⟨u, List.mem_cons_of_mem _ hu, e⟩) h1 hm
theorem regG_sub {vars : List Int} {o : GOp} : ∀ (p : List Fact) (l j : List (List Fact)), regG vars o p l = some j → ∀ z ∈ j, ∃ x ∈ l, ∀ u ∈ x, u ∈ z
  | [], l, j, h, z, hz => by rw [regG] at h; cases h; exact ⟨z, hz, fun _ h => h⟩
  | f :: r, l, j, h, z, hz => by
    rw [regG] at h
    cases hc : casesO vars o f with
    | none => rw [hc] at h; cases h
    | some c =>
      rw [hc, Option.bind_some] at h
      cases hj : capO (joinLL l c) with
      | none => rw [hj] at h; cases h
      | some m =>
        rw [hj, Option.bind_some] at h
        obtain ⟨rfl, -⟩ := capO_some hj
        obtain ⟨x1, hx1, hs⟩ := regG_sub r _ j h z hz
        obtain ⟨x, hx, y, hy, he⟩ := joinLL_sub hx1
        exact ⟨x, hx, fun u hu => hs u ((he u).2 (.inl hu))⟩
/-- the facts that are kept whatever the case -/
def stayL (vars : List Int) (o : GOp) (v : Int) (p : List Fact) : List Fact := p.filter fun f => decide (f.1 ≠ v) && !decide ([] ∈ (casesO vars o f).getD [])
theorem regG_small {vars : List Int} {o : GOp} {v : Int} {w : List Fact} (hs : (silF vars w).length ≤ 8) (h : OneC v w o.Effs) : ∀ (p : List Fact) (l j : List (List Fact)), Asc p → PropL vars l → (∀ f ∈ p, propF vars (-1) [f] = true) → WhenP vars o.Effs → regG vars o p l = some j → ∀ z ∈ j, propF vars (-1) z = true → ∀ x ∈ l, (∀ u ∈ x, u ∈ z) →
    ∃ z' ∈ j, (∀ u ∈ z', u ∈ z) ∧ ∃ q : List Fact, (q = [] ∨ ∃ f ∈ p, f.1 = v ∧ q ∈ uF vars w f) ∧ ∀ u, u ∈ z' ↔ u ∈ x ∨ u ∈ stayL vars o v p ∨ u ∈ q
  | [], l, j, _, _, _, _, hj, z, _, _, x, hx, hxz => by
    rw [regG] at hj
    cases hj
    exact ⟨x, hx, hxz, [], .inl rfl, fun u => by simp [stayL]⟩
  | f :: r, l, j, ha, hl, hpf, hwp, hj, z, hz, hzp, x, hx, hxz => by
    obtain ⟨ha1, ha2⟩ := List.pairwise_cons.1 ha
    rw [regG] at hj
    cases hc : casesO vars o f with
    | none => rw [hc] at hj; cases hj
    | some c =>
      rw [hc, Option.bind_some] at hj
      cases hcap : capO (joinLL l c) with
      | none => rw [hcap] at hj; cases hj
      | some m =>
        rw [hcap, Option.bind_some] at hj
        obtain ⟨rfl, -⟩ := capO_some hcap
        have hcp := (casesO_prop hwp (hpf f (List.mem_cons_self ..)) hc).1
        obtain ⟨x1, hx1, hsub⟩ := regG_sub r _ j hj z hz
        obtain ⟨x0, hx0, y, hy, he⟩ := joinLL_sub hx1
        have hyz : ∀ u ∈ y, u ∈ z := fun u hu => hsub u ((he u).2 (.inr hu))
        obtain ⟨hzn, hza, hzr⟩ := prop_vf hzp
        -- a union of parts of z
        have hjoin : ∀ y' ∈ c, (∀ u ∈ y', u ∈ z) → ∃ x1' ∈ joinLL l c, (∀ u, u ∈ x1' ↔ u ∈ x ∨ u ∈ y') := fun y' hy' hyz' => by
          cases hjo : joinO x y' with
          | some x1' => exact ⟨x1', (joinLL_mem x1' l c).2 ⟨x, hx, y', hy', hjo⟩, (joinO_some hjo).2⟩
          | none =>
            refine absurd ?_ (joinO_none (propF_vF' (hl x hx)) (propF_vF' (hcp y' hy')) hjo)
            intro u hu u' hu' e
            have hm : ∀ u ∈ x ++ y', u ∈ z := fun u hu => by rcases List.mem_append.1 hu with h | h; exact hxz u h; exact hyz' u h
            rw [asc_inj hza (hm u hu) (hm u' hu') e]
        have hlj : PropL vars (joinLL l c) := joinLL_prop hl hcp
        have hstep : ∀ y' ∈ c, (∀ u ∈ y', u ∈ z) → ∃ z' ∈ j, (∀ u ∈ z', u ∈ z) ∧ ∃ q : List Fact, (q = [] ∨ ∃ g ∈ r, g.1 = v ∧ q ∈ uF vars w g) ∧ ∀ u, u ∈ z' ↔ (u ∈ x ∨ u ∈ y') ∨ u ∈ stayL vars o v r ∨ u ∈ q := fun y' hy' hyz' => by
          obtain ⟨x1', m1, m2⟩ := hjoin y' hy' hyz'
          obtain ⟨z', z1, z2, q, q1, q2⟩ := regG_small hs h r _ j ha2 hlj (fun g hg => hpf g (List.mem_cons_of_mem _ hg)) hwp hj z hz hzp x1' m1 (fun u hu => by rcases (m2 u).1 hu with h | h; exact hxz u h; exact hyz' u h)
          exact ⟨z', z1, z2, q, q1, fun u => by rw [q2 u, m2 u]⟩
        by_cases hv : f.1 = v
        · obtain ⟨z', z1, z2, q, q1, q2⟩ := hstep y hy hyz
          have hq0 : q = [] := by
            rcases q1 with q1 | ⟨g, hg, hgv, -⟩
            · exact q1
            · have := ha1 g hg; omega
          subst hq0
          obtain ⟨c', hc', -, hcu⟩ := casesO_1 (vars := vars) (o := o) (f := f) hs h
          rw [hc] at hc'
          obtain rfl := Option.some.inj hc'
          refine ⟨z', z1, z2, y, .inr ⟨f, List.mem_cons_self .., hv, hcu y hy⟩, fun u => ?_⟩
          have hk : stayL vars o v (f :: r) = stayL vars o v r := by unfold stayL; rw [List.filter_cons, if_neg (by simp [hv])]
          rw [q2 u, hk]
          simp only [List.not_mem_nil, or_false]
          rw [or_assoc, or_comm (a := u ∈ y)]
        · obtain ⟨c', hc', -, hcu⟩ := casesO_0 (vars := vars) (o := o) (f := f) (fun e he hev => Decidable.byContradiction fun hne => by
            have := (h.is e he (List.length_pos_iff.2 hne)).1
            omega)
          rw [hc] at hc'
          obtain rfl := Option.some.inj hc'
          by_cases hnil : ([] : List Fact) ∈ c
          · obtain ⟨z', z1, z2, q, q1, q2⟩ := hstep [] hnil (fun u hu => by cases hu)
            refine ⟨z', z1, z2, q, q1.imp id (fun ⟨g, hg, h1, h2⟩ => ⟨g, List.mem_cons_of_mem _ hg, h1, h2⟩), fun u => ?_⟩
            have hk : stayL vars o v (f :: r) = stayL vars o v r := by unfold stayL; rw [List.filter_cons, if_neg (by simp [hc, hnil])]
            rw [q2 u, hk]
            simp only [List.not_mem_nil, or_false]
          · have hyf : y = [f] := (hcu y hy).resolve_left fun e => hnil (e ▸ hy)
            subst hyf
            obtain ⟨z', z1, z2, q, q1, q2⟩ := hstep [f] hy hyz
            refine ⟨z', z1, z2, q, q1.imp id (fun ⟨g, hg, h1, h2⟩ => ⟨g, List.mem_cons_of_mem _ hg, h1, h2⟩), fun u => ?_⟩
            have hk : stayL vars o v (f :: r) = f :: stayL vars o v r := by unfold stayL; rw [List.filter_cons, if_pos (by simp [hv, hc, hnil])]
            rw [q2 u, hk, List.mem_singleton, List.mem_cons, or_assoc, or_assoc]
/-- a regression of an operator with at most one effect with conditions: at most twenty partial states -/
theorem regO_few {t : GTask} (hgood : goodF t = true) (hd : ∀ n ∈ t.Vars, n ≤ 4) (hv6 : t.Vars.length ≤ 6) {p : List Fact} (hpf : propF t.Vars (-1) p = true) {o : GOp} (ho : o ∈ t.Ops) (h1 : condN o.Effs ≤ 1) (h2 : twoF o.Effs = true) : ∃ l, regO t.Vars o p = some l ∧ l.length ≤ 20 := by
  obtain ⟨v, w, hw, hone⟩ := oneC_of h1 h2
  have hs : (silF t.Vars w).length ≤ 8 := by have := silF_le hd w; omega
  obtain ⟨hpn, hpa, hpr⟩ := prop_vf hpf
  have hpl := propF_len' hpf
  have hoo := good_op hgood ho
  have hp6 : 2 ^ p.length ≤ 64 := Nat.le_trans (Nat.pow_le_pow_right (by decide) (show p.length ≤ 6 by omega)) (by decide)
  obtain ⟨m, hm⟩ := regG_some hs hone p [o.Pre] 10 hpa (fun _ => Nat.le_refl _) (by decide) (by rw [List.length_singleton]; omega)
  obtain ⟨m1, m2, m3⟩ := pre_prop hgood hpf ho hm
  refine ⟨sortLL (minF m), by rw [regO, hm, Option.map_some], ?_⟩
  rw [sortLL_length]
  have hprep : PropL t.Vars [o.Pre] := fun x hx => by rw [List.mem_singleton.1 hx]; exact hoo.pre
  have key : ∀ z ∈ minF m, ∃ q : List Fact, (q = [] ∨ ∃ f ∈ p, f.1 = v ∧ q ∈ uF t.Vars w f) ∧ ∀ u, u ∈ z ↔ u ∈ o.Pre ∨ u ∈ stayL t.Vars o v p ∨ u ∈ q := fun z hz => by
    obtain ⟨hzm, hzk⟩ := List.mem_filter.1 hz
    obtain ⟨x, hx, hxz⟩ := regG_sub p _ m hm z hzm
    rw [List.mem_singleton.1 hx] at hxz
    obtain ⟨z', z1, z2, q, q1, q2⟩ := regG_small hs hone p [o.Pre] m hpa hprep (fun f hf => propF_one hpf hf) hoo.when hm z hzm (m1 z hzm) o.Pre (List.mem_singleton.2 rfl) hxz
    have hzz : z' = z := by
      unfold keepF at hzk
      have := List.all_eq_true.1 hzk z' z1
      rw [subF_iff.2 z2] at this
      simpa using this
    subst hzz
    exact ⟨q, q1, q2⟩
  -- the choices
  obtain ⟨U, hU, hUq⟩ : ∃ U : List (List Fact), U.length ≤ 20 ∧ ∀ q : List Fact, (q = [] ∨ ∃ f ∈ p, f.1 = v ∧ q ∈ uF t.Vars w f) → q ∈ U := by
    by_cases hf : ∃ f ∈ p, f.1 = v
    · obtain ⟨f, hf, hfv⟩ := hf
      refine ⟨[] :: uF t.Vars w f, by rw [List.length_cons]; have := uF_len hs f; omega, fun q hq => ?_⟩
      rcases hq with rfl | ⟨g, hg, hgv, hq⟩
      · exact List.mem_cons_self ..
      · have : g = f := asc_inj hpa hg hf (by omega)
        rw [this] at hq
        exact List.mem_cons_of_mem _ hq
    · refine ⟨[[]], by decide, fun q hq => ?_⟩
      rcases hq with rfl | ⟨g, hg, hgv, hq⟩
      · exact List.mem_cons_self ..
      · exact absurd ⟨g, hg, hgv⟩ hf
  have hinj : ∀ (l : List (List Fact)), l.Nodup → (∀ z ∈ l, z ∈ minF m) → ∃ qs : List (List Fact), qs.length = l.length ∧ qs.Nodup ∧ (∀ q ∈ qs, q ∈ U) ∧ ∀ q ∈ qs, ∃ z ∈ l, ∀ u, u ∈ z ↔ u ∈ o.Pre ∨ u ∈ stayL t.Vars o v p ∨ u ∈ q := by
    intro l
    induction l with
    | nil => intro _ _; exact ⟨[], rfl, List.nodup_nil, (fun q hq => by cases hq), (fun q hq => by cases hq)⟩
    | cons z r ih =>
      intro hn hz
      obtain ⟨n1, n2⟩ := List.nodup_cons.1 hn
      obtain ⟨qs, a1, a2, a3, a4⟩ := ih n2 (fun u hu => hz u (List.mem_cons_of_mem _ hu))
      obtain ⟨q, q1, q2⟩ := key z (hz z (List.mem_cons_self ..))
      refine ⟨q :: qs, by rw [List.length_cons, List.length_cons, a1], List.nodup_cons.2 ⟨fun hq => ?_, a2⟩, fun u hu => ?_, fun u hu => ?_⟩
      · obtain ⟨z2, hz2, e2⟩ := a4 q hq
        have : z = z2 := asc_unique z z2 (prop_vf (m1 z (List.mem_filter.1 (hz z (List.mem_cons_self ..))).1)).2.1 (prop_vf (m1 z2 (List.mem_filter.1 (hz z2 (List.mem_cons_of_mem _ hz2))).1)).2.1 (fun u => by rw [q2 u, e2 u])
        exact n1 (this ▸ hz2)
      · rcases List.mem_cons.1 hu with rfl | hu
        · exact hUq u q1
        · exact a3 u hu
      · rcases List.mem_cons.1 hu with rfl | hu
        · exact ⟨z, List.mem_cons_self .., q2⟩
        · obtain ⟨z2, hz2, e2⟩ := a4 u hu
          exact ⟨z2, List.mem_cons_of_mem _ hz2, e2⟩
  obtain ⟨qs, a1, a2, a3, -⟩ := hinj (minF m) (m2.filter _) (fun _ h => h)
  rw [← a1]
  exact Nat.le_trans (nodup_le qs U a2 a3) hU
end Go.Proofs.YtcpajbglcgbolaaGreat.Am
/- Plain: what it means that a certificate is accepted, with any number of steps. -/
namespace Go.Proofs.YtcpajbglcgbolaaGreat.Am
open Go.RowKit
def claimsF (ns : List Nogood) (s : List Int) (d : Int) : Bool := ns.any fun n => decide (n.2 ≤ d) && holdsF s n.1
theorem some_count {s : List Int} {ns : List Nogood} {d : Int} : some1 s (countL ns d) ↔ claimsF ns s d = true := by
  unfold some1 countL claimsF
  rw [List.any_eq_true]
  constructor
  · rintro ⟨z, hz, h⟩
    obtain ⟨n, hn, rfl⟩ := List.mem_map.1 hz
    obtain ⟨h1, h2⟩ := List.mem_filter.1 hn
    exact ⟨n, h1, by rw [h2, h]; rfl⟩
  · rintro ⟨n, hn, h⟩
    rw [Bool.and_eq_true] at h
    exact ⟨n.1, List.mem_map.2 ⟨n, List.mem_filter.2 ⟨hn, h.1⟩, rfl⟩, h.2⟩
def covB (t : GTask) (c : GCertificate) (d : Int) (p : List Fact) : Bool := (covA t.Vars p (countL c.Nogoods d)).1
theorem covB_true {t : GTask} (hgood : goodF t = true) {c : GCertificate} (hc : CertP t.Vars c) {p : List Fact} (hp : propF t.Vars (-1) p = true) (d : Int) : covB t c d p = true ↔ ∀ s, stateF t.Vars s = true → holdsF s p = true → claimsF c.Nogoods s d = true := by
  rw [covB, covA_true (good_dom hgood) hp (count_prop hc d)]
  exact forall_congr' fun s => by rw [some_count]
/-- whether the state leads by the operator to p -/
def inF (o : GOp) (p : List Fact) (s : List Int) : Bool := holdsF s o.Pre && holdsF (nextF s o) p
theorem inF_iff {t : GTask} (hgood : goodF t = true) {o : GOp} (ho : o ∈ t.Ops) {s : List Int} (hs : StP t.Vars s) {p : List Fact} (hp : propF t.Vars (-1) p = true) {l : List (List Fact)} (h : regO t.Vars o p = some l) : some1 s l ↔ inF o p s = true := by
  rw [some_regO hgood ho hs hp h, inF, Bool.and_eq_true, holds_next hgood hs ho hp]
/-- the document's conditions -/
structure Acc (t : GTask) (c : GCertificate) : Prop where
  init : ∀ n ∈ c.Nogoods, holdsF t.Init n.1 = false
  goal : c.Bound ≠ 0 → ∀ s ∈ allF t, holdsF s t.Goal = true → claimsF c.Nogoods s 0 = true
  step : ∀ n ∈ c.Nogoods, ∀ o ∈ t.Ops, skipO c n o = false → ∀ s ∈ allF t, inF o n.1 s = true → claimsF c.Nogoods s (distO c n o) = true
theorem good_goal {t : GTask} (h : goodF t = true) : propF t.Vars (-1) t.Goal = true := by
  unfold goodF at h
  simp only [Bool.and_eq_true] at h
  exact h.2.2.2.1
end Go.Proofs.YtcpajbglcgbolaaGreat.Am
/- Plain: checker.Where with enough steps, judged by all states. -/
namespace Go.Proofs.YtcpajbglcgbolaaGreat.Am
open Go.RowKit
theorem sum_ge (c : Int → Nat) : ∀ (m : Nat) (x : Int), (∀ y, x ≤ y → y < x + m → 1 ≤ c y) → m ≤ ((List.range m).map fun k : Nat => c (x + k)).sum
  | 0, _, _ => Nat.zero_le _
  | m + 1, x, h => by
    have e : ((fun k : Nat => c (x + k)) ∘ Nat.succ) = fun k : Nat => c (x + 1 + k) := by
      funext k; simp only [Function.comp, Nat.succ_eq_add_one]; congr 1; omega
    rw [List.range_succ_eq_map, List.map_cons, List.sum_cons, List.map_map, e]
    have h0 := h (x + (0 : Nat)) (by omega) (by omega)
    have ih := sum_ge c m (x + 1) (fun y h1 h2 => h y (by omega) (by omega))
    omega
theorem kids_cost2 (f : Int → Bool × Int) (c : Int → Nat) : ∀ (m : Nat) (x a : Int), (∀ y, x ≤ y → y < x + m → 1 ≤ (f y).2 ∧ (f y).2 + 1 ≤ 2 * (c y : Int)) → (kids f m x a).2 + m ≤ a + 2 * ((((List.range m).map fun k : Nat => c (x + k)).sum : Nat) : Int)
  | 0, x, a, _ => by simp [kids]
  | m + 1, x, a, h => by
    have h0 := h x (Int.le_refl _) (by omega)
    have e : ((fun k : Nat => c (x + k)) ∘ Nat.succ) = fun k : Nat => c (x + 1 + k) := by
      funext k; simp only [Function.comp, Nat.succ_eq_add_one]; congr 1; omega
    have e0 : x + ((0 : Nat) : Int) = x := by omega
    rw [List.range_succ_eq_map, List.map_cons, List.sum_cons, List.map_map, e, e0, Int.natCast_add]
    have hs := sum_ge c m (x + 1) (fun y h1 h2 => by have := h y (by omega) (by omega); omega)
    rw [kids]
    split
    · have ih := kids_cost2 f c m (x + 1) (a + (f x).2) (fun y h1 h2 => h y (by omega) (by omega))
      omega
    · show a + (f x).2 + _ ≤ _; omega
theorem decA_cost2 {vars : List Int} (h2 : ∀ n ∈ vars, 2 ≤ n) (S : List (List Int)) (hS : ∀ s, stateF vars s = true → s ∈ S) : ∀ (d : Nat) (p : List Fact) (l : List (List Fact)), DecP vars d p l → (decA vars d p l).2 + 1 ≤ 2 * (cntS S p : Int)
  | 0, p, l, h => h.zero.elim
  | d + 1, p, l, h => by
    have hone : 1 ≤ cntS S p := by
      obtain ⟨s, s1, s2⟩ := some_state h.dom h.prop
      exact List.length_pos_of_mem (List.mem_filter.2 ⟨hS s s1, s2⟩)
    rw [decA]
    split
    · show (1 : Int) + 1 ≤ _; omega
    · split
      · show (1 : Int) + 1 ≤ _; omega
      · rename_i hc hl
        obtain ⟨l1, l2, l3⟩ := h.low hl
        have hm2 : 2 ≤ vars.getD (lowL p (restP p l) vars.length).toNat 0 := by
          rw [List.getD_eq_getElem?_getD, List.getElem?_eq_getElem (by omega), Option.getD_some]
          exact h2 _ (List.getElem_mem _)
        have hk := kids_cost2 (fun x => decA vars d (pwithF p (lowL p (restP p l) vars.length, x)) (restP p l)) (fun x => cntS S (pwithF p (lowL p (restP p l) vars.length, x))) (vars.getD (lowL p (restP p l) vars.length).toNat 0).toNat 0 1
          (fun y y0 y1 => ⟨decA_pos vars d _ _, decA_cost2 h2 S hS d _ _ (h.kid hl y0 (by omega))⟩)
        have hsum := cnt_split (lowL p (restP p l) vars.length) p S (vars.getD (lowL p (restP p l) vars.length).toNat 0).toNat 0 (fun x => cntS S (pwithF p (lowL p (restP p l) vars.length, x))) (fun y => by
          unfold cntS
          refine Nat.le_of_eq (congrArg List.length (List.filter_congr fun s _ => ?_))
          rw [Bool.eq_iff_iff, holds_pwith, Bool.and_eq_true])
        have hle : (S.filter fun s => holdsF s p && decide (0 ≤ s.getD (lowL p (restP p l) vars.length).toNat 0)).length ≤ cntS S p := by
          unfold cntS
          rw [show (S.filter fun s => holdsF s p && decide (0 ≤ s.getD (lowL p (restP p l) vars.length).toNat 0)) = (S.filter fun s => holdsF s p).filter fun s => decide (0 ≤ s.getD (lowL p (restP p l) vars.length).toNat 0) from by
            rw [List.filter_filter]; exact List.filter_congr fun s _ => Bool.and_comm _ _]
          exact List.length_filter_le _ _
        have := Nat.le_trans hsum hle
        omega
theorem statesG_lenM (M : Nat) (hM : 64 ≤ M) : ∀ (r : List Int) (out : List (List Int)), (∀ k ∈ r, 1 ≤ k ∧ k ≤ 64) → out.length ≤ M → manyF M r out.length ≤ M → (statesG r out).length ≤ M
  | [], out, _, hl, _ => hl
  | k :: r, out, hk, hl, hm => by
    obtain ⟨k1, k2⟩ := hk k (List.mem_cons_self ..)
    have hmin : min (max k 0) ((M : Int) + 1) = k := by omega
    rw [manyF, hmin] at hm
    have hb : ¬ ((out.length : Int) * k > M) := fun h => by rw [if_pos h] at hm; omega
    rw [if_neg hb] at hm
    obtain ⟨m, rfl⟩ : ∃ m : Nat, k = m := ⟨k.toNat, by omega⟩
    have hlen : (out.flatMap fun s => extF s m 0).length = out.length * m := flat_ext_len m out
    have hcast : (out.length : Int) * (m : Int) = ((out.length * m : Nat) : Int) := by rw [Int.natCast_mul]
    rw [statesG, Int.toNat_natCast]
    exact statesG_lenM M hM r _ (fun u hu => hk u (List.mem_cons_of_mem _ hu)) (by rw [hlen]; omega) (by rw [hlen, ← hcast]; exact hm)
theorem many_pow : ∀ (r : List Int) (n : Nat), (∀ k ∈ r, 2 ≤ k ∧ k ≤ 64) → n ≤ 100 → manyF 100 r n ≤ 100 → n * 2 ^ r.length ≤ 100
  | [], n, _, hl, _ => by simpa using hl
  | k :: r, n, hk, hl, hm => by
    obtain ⟨k1, k2⟩ := hk k (List.mem_cons_self ..)
    have hmin : min (max k 0) ((100 : Int) + 1) = k := by omega
    rw [manyF, hmin] at hm
    have hb : ¬ ((n : Int) * k > 100) := fun h => by rw [if_pos h] at hm; omega
    rw [if_neg hb] at hm
    obtain ⟨m, rfl⟩ : ∃ m : Nat, k = m := ⟨k.toNat, by omega⟩
    have hcast : (n : Int) * (m : Int) = ((n * m : Nat) : Int) := by rw [Int.natCast_mul]
    rw [hcast] at hb hm
    have ih := many_pow r (n * m) (fun u hu => hk u (List.mem_cons_of_mem _ hu)) (by omega) hm
    rw [List.length_cons, Nat.pow_succ, Nat.mul_comm (2 ^ r.length), ← Nat.mul_assoc]
    exact Nat.le_trans (Nat.mul_le_mul_right _ (Nat.mul_le_mul_left _ (by omega))) ih
/-- what the laws' guards give -/
structure Gen (t : GTask) : Prop where
  good : goodF t = true
  small : smallF t = true
  dom : ∀ n ∈ t.Vars, 2 ≤ n ∧ n ≤ 4
  vars : t.Vars.length ≤ 6
  states : (allF t).length ≤ 100
  ops : t.Ops.length ≤ 8
  two : ∀ o ∈ t.Ops, twoF o.Effs = true
  one : ∀ o ∈ t.Ops, condN o.Effs ≤ 1
theorem gentle_gen {t : GTask} (h : gentleF t = true) : Gen t := by
  have hs := tame_small (gentle_tame h)
  have hgood := (small_good hs).1
  have ht := gentle_tame h
  unfold gentleF at h
  unfold tameF tameO at ht
  simp only [Bool.and_eq_true, decide_eq_true_iff, List.all_eq_true] at h ht
  have hd := ht.2.1
  have hd2 := (good_dom hgood).dom
  have hpow := many_pow t.Vars 1 (fun k hk => ⟨(hd k hk).1, (hd2 k hk).2⟩) (by decide) h.2.1
  refine ⟨hgood, hs, hd, ?_, ?_, h.2.2.1, fun o ho => (ht.2.2 o ho).1, h.2.2.2⟩
  · refine Nat.le_of_not_lt fun hlt => ?_
    have : 2 ^ 7 ≤ 2 ^ t.Vars.length := Nat.pow_le_pow_right (by decide) hlt
    omega
  · exact statesG_lenM 100 (by decide) t.Vars [[]] hd2 (by decide) h.2.1
theorem Gen.cost {t : GTask} (h : Gen t) {p : List Fact} (hp : propF t.Vars (-1) p = true) {l : List (List Fact)} (hl : PropL t.Vars l) : (covA t.Vars p l).2 ≤ 199 := by
  have h1 := decA_cost2 (fun n hn => (h.dom n hn).1) (allF t) (fun s hs => (allF_mem t s).2 hs) _ p l (cov_pre (good_dom h.good) hp hl)
  have h2 : cntS (allF t) p ≤ (allF t).length := List.length_filter_le _ _
  have h3 := h.states
  unfold covA
  omega
/-- whether the document finds a state that is not covered -/
def openF (t : GTask) (c : GCertificate) (n : Nogood) (o : GOp) : Bool := !skipO c n o && (allF t).any fun s => inF o n.1 s && !claimsF c.Nogoods s (distO c n o)
theorem cov_open {t : GTask} (hgood : goodF t = true) {c : GCertificate} (hc : CertP t.Vars c) {n : Nogood} (hn : n ∈ c.Nogoods) {o : GOp} (ho : o ∈ t.Ops) {l : List (List Fact)} (hl : regO t.Vars o n.1 = some l) (d : Int) :
    (l.all (covB t c d) = true ↔ ∀ s ∈ allF t, inF o n.1 s = true → claimsF c.Nogoods s d = true) := by
  have hlp := (regO_len hgood (hc.prop n hn) ho hl).1
  rw [List.all_eq_true]
  constructor
  · intro h s hs hi
    have hst := (allF_mem t s).1 hs
    obtain ⟨z, hz, hh⟩ := (inF_iff hgood ho (stateF_st hst) (hc.prop n hn) hl).2 hi
    exact (covB_true hgood hc (hlp z hz) d).1 (h z hz) s hst hh
  · intro h z hz
    exact (covB_true hgood hc (hlp z hz) d).2 fun s hst hh => h s ((allF_mem t s).2 hst) ((inF_iff hgood ho (stateF_st hst) (hc.prop n hn) hl).1 ⟨z, hz, hh⟩)
theorem open_not {t : GTask} {c : GCertificate} {n : Nogood} {o : GOp} (hs : skipO c n o = false) : openF t c n o = false ↔ ∀ s ∈ allF t, inF o n.1 s = true → claimsF c.Nogoods s (distO c n o) = true := by
  rw [openF, hs, Bool.not_false, Bool.true_and, Bool.eq_false_iff, ne_eq, List.any_eq_true]
  constructor
  · intro h s hs hi
    refine Decidable.byContradiction fun hne => h ⟨s, hs, ?_⟩
    rw [hi, Bool.eq_false_iff.2 hne]; rfl
  · rintro h ⟨s, hs, e⟩
    rw [Bool.and_eq_true] at e
    rw [h s hs e.1] at e
    exact absurd e.2 (by decide)
def firstO (t : GTask) (c : GCertificate) (n : Nogood) : List GOp → Int → Option Int
  | [], _ => none
  | o :: os, j => if openF t c n o = true then some j else firstO t c n os (j + 1)
def firstN (t : GTask) (c : GCertificate) : List Nogood → Int → Int × Int × Er
  | [], _ => (-1, -1, .nil)
  | n :: ns, i => match firstO t c n t.Ops 0 with
    | some j => (i, j, .no 19)
    | none => firstN t c ns (i + 1)
/-- the document's answer for a right task and certificate -/
def refC (t : GTask) (c : GCertificate) : Int × Int × Er :=
  if c.Nogoods.any (fun n => holdsF t.Init n.1) = true then (-1, -1, .no 20)
  else if (c.Bound != 0 && (allF t).any fun s => holdsF s t.Goal && !claimsF c.Nogoods s 0) = true then (-1, -1, .no 13)
  else firstN t c c.Nogoods 0
def refF (t : GTask) (c : GCertificate) : Int × Int × Er :=
  match checkF t with
  | .no e => (-1, -1, .no e)
  | .nil => match properF t.Vars c with
    | .no e => (-1, -1, .no e)
    | .nil => refC t c
end Go.Proofs.YtcpajbglcgbolaaGreat.Am
/- Plain: with enough steps a certificate is accepted exactly if the document's conditions hold. -/
namespace Go.Proofs.YtcpajbglcgbolaaGreat.Am
open Go.RowKit
theorem firstO_none {t : GTask} {c : GCertificate} {n : Nogood} : ∀ (l : List GOp) (j : Int), firstO t c n l j = none ↔ ∀ o ∈ l, openF t c n o = false
  | [], j => ⟨fun _ => (nofun), fun _ => rfl⟩
  | o :: os, j => by
    rw [firstO]
    cases h : openF t c n o with
    | true =>
      rw [if_pos rfl]
      exact ⟨fun e => (by cases e), fun e => by rw [e o (List.mem_cons_self ..)] at h; cases h⟩
    | false =>
      rw [if_neg (by decide), firstO_none os]
      exact ⟨fun e u hu => by rcases List.mem_cons.1 hu with rfl | hu; exact h; exact e u hu, fun e u hu => e u (List.mem_cons_of_mem _ hu)⟩
theorem firstN_nil {t : GTask} {c : GCertificate} : ∀ (l : List Nogood) (i : Int), (firstN t c l i).2.2 = .nil ↔ ∀ n ∈ l, ∀ o ∈ t.Ops, openF t c n o = false
  | [], i => ⟨fun _ => (nofun), fun _ => rfl⟩
  | n :: ns, i => by
    rw [firstN]
    cases h : firstO t c n t.Ops 0 with
    | some k =>
      refine ⟨fun e => (by cases e), fun e => ?_⟩
      rw [(firstO_none t.Ops 0).2 (e n (List.mem_cons_self ..))] at h
      cases h
    | none =>
      have h0 := (firstO_none t.Ops 0).1 h
      simp only
      rw [firstN_nil ns]
      exact ⟨fun e u hu => by rcases List.mem_cons.1 hu with rfl | hu; exact h0; exact e u hu, fun e u hu => e u (List.mem_cons_of_mem _ hu)⟩
theorem refC_nil {t : GTask} {c : GCertificate} : (refC t c).2.2 = .nil ↔ Acc t c := by
  have hstep : (∀ n ∈ c.Nogoods, ∀ o ∈ t.Ops, openF t c n o = false) ↔ ∀ n ∈ c.Nogoods, ∀ o ∈ t.Ops, skipO c n o = false → ∀ s ∈ allF t, inF o n.1 s = true → claimsF c.Nogoods s (distO c n o) = true := by
    constructor
    · intro h n hn o ho hs
      exact (open_not hs).1 (h n hn o ho)
    · intro h n hn o ho
      cases hs : skipO c n o with
      | true => rw [openF, hs]; rfl
      | false => exact (open_not hs).2 (h n hn o ho hs)
  unfold refC
  cases h1 : c.Nogoods.any fun n => holdsF t.Init n.1 with
  | true =>
    rw [if_pos rfl]
    obtain ⟨n, hn, h⟩ := List.any_eq_true.1 h1
    exact ⟨fun e => (by cases e), fun e => by rw [e.init n hn] at h; cases h⟩
  | false =>
    have hi : ∀ n ∈ c.Nogoods, holdsF t.Init n.1 = false := fun n hn => by
      rw [Bool.eq_false_iff]
      intro h
      rw [List.any_eq_true.2 ⟨n, hn, h⟩] at h1
      cases h1
    rw [if_neg (by decide)]
    cases h2 : (c.Bound != 0 && (allF t).any fun s => holdsF s t.Goal && !claimsF c.Nogoods s 0) with
    | true =>
      rw [if_pos rfl]
      rw [Bool.and_eq_true, bne_iff_ne] at h2
      obtain ⟨s, hs, h⟩ := List.any_eq_true.1 h2.2
      rw [Bool.and_eq_true] at h
      exact ⟨fun e => (by cases e), fun e => by rw [e.goal h2.1 s hs h.1] at h; exact absurd h.2 (by decide)⟩
    | false =>
      have hg : c.Bound ≠ 0 → ∀ s ∈ allF t, holdsF s t.Goal = true → claimsF c.Nogoods s 0 = true := fun hb s hs hh => by
        refine Decidable.byContradiction fun hne => ?_
        have : (c.Bound != 0 && (allF t).any fun s => holdsF s t.Goal && !claimsF c.Nogoods s 0) = true := by
          rw [Bool.and_eq_true, bne_iff_ne]
          exact ⟨hb, List.any_eq_true.2 ⟨s, hs, by rw [hh, Bool.eq_false_iff.2 hne]; rfl⟩⟩
        rw [h2] at this
        cases this
      rw [if_neg (by decide), firstN_nil, hstep]
      exact ⟨fun h => ⟨hi, hg, h⟩, fun h => h.step⟩
end Go.Proofs.YtcpajbglcgbolaaGreat.Am
/- Plain: checker.Where with enough steps, for at most 24 states and 24 nogoods. -/
namespace Go.Proofs.YtcpajbglcgbolaaGreat.Am
open Go.RowKit
structure GenP (t : GTask) : Prop extends Gen t where
  st24 : (allF t).length ≤ 24
theorem GenP.cost {t : GTask} (h : GenP t) {p : List Fact} (hp : propF t.Vars (-1) p = true) {l : List (List Fact)} (hl : PropL t.Vars l) : (covA t.Vars p l).2 ≤ 47 := by
  have h1 := decA_cost2 (fun n hn => (h.dom n hn).1) (allF t) (fun s hs => (allF_mem t s).2 hs) _ p l (cov_pre (good_dom h.good) hp hl)
  have h2 : cntS (allF t) p ≤ (allF t).length := List.length_filter_le _ _
  have h3 := h.st24
  unfold covA
  omega
theorem ask_okP {t : GTask} (h : GenP t) {c : GCertificate} (hc : CertP t.Vars c) {p : List Fact} (hp : propF t.Vars (-1) p = true) (d r : Int) (hr : 47 ≤ r) : ∃ r', askC t c p d r = (covB t c d p, .nil, r') ∧ r - 47 ≤ r' := by
  have hcost := h.cost hp (count_prop hc d)
  refine ⟨r - (covA t.Vars p (countL c.Nogoods d)).2, ?_, by omega⟩
  rw [askC, if_pos (by omega)]; rfl
theorem stepL_okP {t : GTask} (h : GenP t) {c : GCertificate} (hc : CertP t.Vars c) (d : Int) : ∀ (l : List (List Fact)) (r : Int), PropL t.Vars l → 47 * (l.length : Int) ≤ r → ∃ r', stepL t c d l r = (if l.all (covB t c d) = true then .nil else .no 19, r') ∧ r - 47 * (l.length : Int) ≤ r'
  | [], r, _, _ => ⟨r, rfl, by simp⟩
  | p :: ps, r, hl, hr => by
    rw [List.length_cons] at hr ⊢
    obtain ⟨r1, e1, h1⟩ := ask_okP h hc (hl p (List.mem_cons_self ..)) d r (by omega)
    rw [stepL, e1, List.all_cons]
    cases hb : covB t c d p with
    | false => exact ⟨r1, rfl, by omega⟩
    | true =>
      obtain ⟨r2, e2, h2⟩ := stepL_okP h hc d ps r1 (fun x hx => hl x (List.mem_cons_of_mem _ hx)) (by omega)
      exact ⟨r2, e2, by omega⟩
theorem stepO_okP {t : GTask} (h : GenP t) {c : GCertificate} (hc : CertP t.Vars c) {n : Nogood} (hn : n ∈ c.Nogoods) {o : GOp} (ho : o ∈ t.Ops) (r : Int) (hr : 940 ≤ r) : ∃ r', stepO t c n o r = (if openF t c n o = true then .no 19 else .nil, r') ∧ r - 940 ≤ r' := by
  rw [stepO]
  cases hs : skipO c n o with
  | true => exact ⟨r, by rw [openF, hs]; rfl, by omega⟩
  | false =>
    obtain ⟨l, hl, hlen⟩ := regO_few h.good (fun k hk => (h.dom k hk).2) h.vars (hc.prop n hn) ho (h.one o ho) (h.two o ho)
    have hlp := (regO_len h.good (hc.prop n hn) ho hl).1
    obtain ⟨r', e, h2⟩ := stepL_okP h hc (distO c n o) l r hlp (by omega)
    rw [if_neg (by decide), hl]
    simp only
    rw [e]
    refine ⟨r', ?_, by omega⟩
    congr 1
    have h3 := cov_open h.good hc hn ho hl (distO c n o)
    have h4 := open_not (t := t) (c := c) (n := n) (o := o) hs
    cases ho2 : openF t c n o with
    | false => rw [if_pos (h3.2 (h4.1 ho2)), if_neg (by decide)]
    | true =>
      rw [if_neg (fun hh => by rw [h4.2 (h3.1 hh)] at ho2; cases ho2), if_pos rfl]
theorem opsC_okP {t : GTask} (h : GenP t) {c : GCertificate} (hc : CertP t.Vars c) {n : Nogood} (hn : n ∈ c.Nogoods) (i : Int) : ∀ (l : List GOp) (j r : Int), (∀ o ∈ l, o ∈ t.Ops) → 940 * (l.length : Int) ≤ r → (∀ k, firstO t c n l j = some k → opsC t c n i l j r = .inr (i, k, .no 19)) ∧ (firstO t c n l j = none → ∃ r', opsC t c n i l j r = .inl r' ∧ r - 940 * (l.length : Int) ≤ r')
  | [], j, r, _, _ => ⟨fun k e => (by cases e), fun _ => ⟨r, rfl, by simp⟩⟩
  | o :: os, j, r, hl, hr => by
    rw [List.length_cons] at hr ⊢
    obtain ⟨r1, e1, h1⟩ := stepO_okP h hc hn (hl o (List.mem_cons_self ..)) r (by omega)
    rw [opsC, e1, firstO]
    cases openF t c n o with
    | true => exact ⟨fun k e => by rw [if_pos rfl] at e; injection e with e; subst e; rfl, fun e => by rw [if_pos rfl] at e; cases e⟩
    | false =>
      obtain ⟨g1, g2⟩ := opsC_okP h hc hn i os (j + 1) r1 (fun u hu => hl u (List.mem_cons_of_mem _ hu)) (by omega)
      rw [if_neg (by decide), if_neg (by decide)]
      refine ⟨g1, fun e => ?_⟩
      obtain ⟨r', e2, h2⟩ := g2 e
      exact ⟨r', e2, by omega⟩
theorem nogC_okP {t : GTask} (h : GenP t) {c : GCertificate} (hc : CertP t.Vars c) : ∀ (l : List Nogood) (i r : Int), (∀ n ∈ l, n ∈ c.Nogoods) → 7520 * (l.length : Int) ≤ r → nogC t c l i r = firstN t c l i
  | [], i, r, _, _ => rfl
  | n :: ns, i, r, hl, hr => by
    have hops := h.ops
    rw [List.length_cons] at hr
    obtain ⟨g1, g2⟩ := opsC_okP h hc (hl n (List.mem_cons_self ..)) i t.Ops 0 r (fun _ h => h) (by omega)
    rw [nogC, firstN]
    cases hf : firstO t c n t.Ops 0 with
    | some k => rw [g1 k hf]
    | none =>
      obtain ⟨r', e, h2⟩ := g2 hf
      rw [e]
      exact nogC_okP h hc ns (i + 1) r' (fun u hu => hl u (List.mem_cons_of_mem _ hu)) (by omega)
theorem whereC_okP {t : GTask} (h : GenP t) {c : GCertificate} (hc : CertP t.Vars c) (hf : c.Nogoods.length ≤ 24) : whereC t c 1048576 = refC t c := by
  rw [whereC, refC]
  split
  · rfl
  · by_cases hb : c.Bound = 0
    · rw [if_pos hb, show (c.Bound != 0) = false from by simp [hb], Bool.false_and, if_neg (by decide)]
      exact nogC_okP h hc _ _ _ (fun _ h => h) (by omega)
    · obtain ⟨r', e, h2⟩ := ask_okP h hc (good_goal h.good) 0 1048576 (by decide)
      rw [if_neg hb, e, show (c.Bound != 0) = true from by simp [hb], Bool.true_and]
      have hcov := covB_true h.good hc (good_goal h.good) 0
      cases hq : covB t c 0 t.Goal with
      | true =>
        rw [if_neg]
        · exact nogC_okP h hc _ _ _ (fun _ h => h) (by omega)
        · intro hh
          obtain ⟨s, hs, e⟩ := List.any_eq_true.1 hh
          rw [Bool.and_eq_true] at e
          rw [hcov.1 hq s ((allF_mem t s).1 hs) e.1] at e
          exact absurd e.2 (by decide)
      | false =>
        rw [if_pos]
        refine Decidable.byContradiction fun hne => ?_
        have : covB t c 0 t.Goal = true := hcov.2 fun s hst hh => Decidable.byContradiction fun hc2 => hne (List.any_eq_true.2 ⟨s, (allF_mem t s).2 hst, by rw [hh, Bool.eq_false_iff.2 hc2]; rfl⟩)
        rw [hq] at this
        cases this
theorem whereF_okP {t : GTask} (h : GenP t) {c : GCertificate} (hf : c.Nogoods.length ≤ 24) : whereF t c 1048576 = refF t c := by
  unfold whereF refF
  cases checkF t with
  | no e => rfl
  | nil =>
    simp only
    cases hp : properF t.Vars c with
    | no e => rfl
    | nil => exact whereC_okP h ((properF_nil t.Vars c).1 hp) hf
theorem ver_okP {t : GTask} (h : GenP t) {c : GCertificate} (hf : c.Nogoods.length ≤ 24) : verF t c 1048576 = .nil ↔ CertP t.Vars c ∧ Acc t c := by
  rw [verF, whereF_okP h hf, refF, (good_check t).1 h.good]
  simp only
  cases hp : properF t.Vars c with
  | no e =>
    refine ⟨fun e => (by cases e), fun e => ?_⟩
    rw [(properF_nil t.Vars c).2 e.1] at hp
    cases hp
  | nil =>
    simp only
    rw [refC_nil]
    exact ⟨fun e => ⟨(properF_nil t.Vars c).1 hp, e⟩, fun e => e.2⟩
end Go.Proofs.YtcpajbglcgbolaaGreat.Am
/- Models printed by my decompiler, and the proofs that the code computes them. -/
namespace Go.Proofs.YtcpajbglcgbolaaGreat.Am
open Go.RowKit
structure GEdge where
  From : Int
  Op : Int
  To : Int
  deriving DecidableEq
def cGEdge (x : GEdge) : List AV := [.c (.int .i64 x.From), .c (.int .i64 x.Op), .c (.int .i64 x.To)]
theorem fr_cGEdge (x : GEdge) : ∀ y ∈ cGEdge x, Fr y := FrC_cons (.c _) (FrC_cons (.c _) (FrC_cons (.c _) (FrC_nil)))
theorem frl_cGEdge (l : List GEdge) : FrL (l.map cGEdge) := FrL_map (fun x _ => fr_cGEdge x)
instance {l : List GEdge} : FrI (l.map cGEdge) := ⟨frl_cGEdge l⟩
theorem ci_XDDis {p K : Prop} (k : K) (h : p := by first | rfl | exact ⟨rfl, rfl⟩ | exact BW.fr FrV.h | (refine BW.fr ?_; assumption) | (refine ⟨rfl, ?_⟩; (simp [cGTask, cI, cF, cGOp, cGEffect, cL_cI, cGEdge, take_len_map]; done)) | (refine RowK.same ?_ FrI.h; first | rfl | (simp [cGTask, cI, cF, cGOp, cGEffect, cL_cI, cGEdge, take_len_map]; done)) | (refine row_part1 ?_; (repeat (first | exact BWL.nil | exact bwll_nil | exact bw_c | exact BW.sl | exact BW.nil | exact bwll_same rfl FrI.h | refine BWL.cons ?_ ?_ | refine bwll_cons ?_ ?_ | (refine bw_own3 rfl rfl rfl FrI.h ?_ ?_ ?_) | exact BW.fr FrV.h | exact BW.fr (by assumption) | refine bw_agg ?_ | refine bw_clo ?_ | refine bw_ptr rfl rfl rfl ?_ | (refine bw_own rfl rfl rfl ?_ FrI.h ?_ ?_) | assumption | omega | rfl | (rw [List.length_map, ← List.length_append]; assumption) | (refine bwll_same ?_ FrI.h; (simp [cGTask, cI, cF, cGOp, cGEffect, cL_cI, cGEdge] <;> fail)) | (rw [List.map_set]; refine bwll_set (by first | rfl | omega | simp) ?_ ?_) | refine bwll_set (by first | rfl | omega | simp) ?_ ?_ | (rw [List.map_replicate]; refine bwll_rep ?_) | refine bwll_rep ?_ | (rw [List.map_append]; refine bwll_append ?_ ?_) | refine bwll_append ?_ ?_ | (simp [cGTask, cI, cF, cGOp, cGEffect, cL_cI, cGEdge, take_len_map] <;> fail) | (rw [List.drop_zero, List.take_of_length_le] <;> first | rfl | (simp [cGTask, cI, cF, cGOp, cGEffect, cL_cI, cGEdge] <;> fail)) | (simp; omega) | (simp only [List.length_map, List.drop_zero, List.length_cons, List.length_nil, Nat.zero_add, Nat.add_zero] at *; omega))); done) | ((repeat (first | exact BWL.nil | exact bwll_nil | exact bw_c | exact BW.sl | exact BW.nil | exact bwll_same rfl FrI.h | refine BWL.cons ?_ ?_ | refine bwll_cons ?_ ?_ | (refine bw_own3 rfl rfl rfl FrI.h ?_ ?_ ?_) | exact BW.fr FrV.h | exact BW.fr (by assumption) | refine bw_agg ?_ | refine bw_clo ?_ | refine bw_ptr rfl rfl rfl ?_ | (refine bw_own rfl rfl rfl ?_ FrI.h ?_ ?_) | assumption | omega | rfl | (rw [List.length_map, ← List.length_append]; assumption) | (refine bwll_same ?_ FrI.h; (simp [cGTask, cI, cF, cGOp, cGEffect, cL_cI, cGEdge] <;> fail)) | (rw [List.map_set]; refine bwll_set (by first | rfl | omega | simp) ?_ ?_) | refine bwll_set (by first | rfl | omega | simp) ?_ ?_ | (rw [List.map_replicate]; refine bwll_rep ?_) | refine bwll_rep ?_ | (rw [List.map_append]; refine bwll_append ?_ ?_) | refine bwll_append ?_ ?_ | (simp [cGTask, cI, cF, cGOp, cGEffect, cL_cI, cGEdge, take_len_map] <;> fail) | (rw [List.drop_zero, List.take_of_length_le] <;> first | rfl | (simp [cGTask, cI, cF, cGOp, cGEffect, cL_cI, cGEdge] <;> fail)) | (simp; omega) | (simp only [List.length_map, List.drop_zero, List.length_cons, List.length_nil, Nat.zero_add, Nat.add_zero] at *; omega))); done) | (simp [cGTask, cI, cF, cGOp, cGEffect, cL_cI, cGEdge, take_len_map]; done)) : p ∧ K := ⟨h, k⟩
theorem ca_XDDis {P : Prop} (h : P := by repeat (first | exact True.intro | refine ci_XDDis ?_)) : P := h
theorem pr_XDDis {p K : Prop} (k : K) (h : p := by first | assumption | exact Int.natCast_nonneg _ | exact Nat.le_refl _ | exact Nat.zero_le _ | omega | (simp; done) | (simp; omega)) : p ∧ K := ⟨h, k⟩
theorem pl_XDDis {p K : Prop} (k : K) (h : p := by first | rfl | exact List.length_map _ | (simp; done) | (simp; omega)) : p ∧ K := ⟨h, k⟩
theorem pe_XDDis {p K : Prop} (k : K) (h : p := by first | omega | (simp; omega) | (simp only [List.length_map, List.length_cons, List.length_nil, List.length_append]; omega) | (simp only [List.length_map, List.drop_zero, List.length_cons, List.length_nil, Nat.zero_add, Nat.add_zero] at *; omega)) : p ∧ K := ⟨h, k⟩
theorem dr_XDDis {b : Bool} {p K : Prop} (k : K) (h : b = true → p := by intro h; first | (cases h; done) | exact ⟨by kernel_rfl, by kernel_rfl⟩) : (b = true → p) ∧ K := ⟨h, k⟩
theorem cl_XDDis {C : Cx} {n : Nat} {o : Oper} {τ : Nat → AV} {η : Nat → Ent} {f : FuncId} {os : Array Operand} {ats : Array TypeId} {r : AV} {args : List AV} {K : Foot → Prop} (ho : o.op = .call ⟨.value (.func f), os, ats⟩) (hc : ACall C f args r) (k : K ⟨r, [], []⟩)
    (hd : InB n o.dst := by exact Nat.le_of_ble_eq_true rfl) (hargs : os.toList.map (evA τ) = args := by first | rfl | (simp [cGTask, cI, cF, cGOp, cGEffect, cL_cI, cGEdge]; done) | (repeat (first | exact rfl | refine cons_eq ?_ ?_ | exact sl_dt rfl))) (hfr : frs args := by repeat (first | exact trivial | exact fr1_eA _ | exact fr0_eA _ | exact fr1_fr (by assumption) | exact FrV.h | refine And.intro ?_ ?_)) (hr : fr1 r := by repeat (first | exact trivial | exact fr1_eA _ | exact fr0_eA _ | exact fr1_fr (by assumption) | exact FrV.h | refine And.intro ?_ ?_)) : ∃ f : Foot, LF C n o τ η f ∧ K f := ⟨_, lf_call ho hd hargs hc hfr hr, k⟩
def M_b_Rank_L1 (a0 : List Int) (a1 : List Int) : Nat → Int → Int → Option (Int)
  | 0, _, _ => none
  | k9 + 1, v7, v8 =>
    sel (decide (v8 < ((a1.map cI).length : Int)))
     (ix a0 v8 (fun y10 =>
       ix a1 v8 (fun y11 =>
        M_b_Rank_L1 a0 a1 k9 (IntKind.i64.wrap ((IntKind.i64.wrap (v7 * y10)) + y11)) (IntKind.i64.wrap (v8 + 1)))))
     (some v7)
def M_b_Rank (a0 : List Int) (a1 : List Int) : Option (Int) :=
  M_b_Rank_L1 a0 a1 ((((a1.map cI).length : Int)).toNat + 1) 0 0
set_option maxHeartbeats 16000000 in
set_option maxRecDepth 100000 in
theorem A_b_Rank (a0 : List Int) (a1 : List Int) {r1 : Int} (h : M_b_Rank a0 a1 = some r1) : ACall cx 40 [.sl 1 (a0.map cI), .sl 1 (a1.map cI)] (.c (.int .i64 r1)) := by
  refine aOf Tryz.func40 rfl (by decide) rfl (Nat.le_of_ble_eq_true rfl) ?_; intro _; unfold M_b_Rank at h; refine aSq ?_; refine aRg ?_; intro _; refine dr_XDDis ?_; refine aSq ?_; refine aRg ?_; intro _; refine dr_XDDis ?_; refine aSq ?_; refine aSq ?_; refine aRg ?_; intro _; refine dr_XDDis ?_; refine aBk ?_; refine awp_loop (α := Nat × Int × Int) (fun x => mkS 25 [(0, .sl 1 (a0.map cI)), (1, .sl 1 (a1.map cI)), (5, .c (.int .i64 x.2.1)), (8, .c (.int .i64 ((a1.map cI).length : Int))), (9, .c (.int .i64 x.2.2))] []) (fun x => M_b_Rank_L1 a0 a1 x.1 x.2.1 x.2.2 = some r1) (fun x => x.1) ((((a1.map cI).length : Int)).toNat + 1, 0, 0) h ?_ ?_
  · exact ca_XDDis
  · intro x1 h; intro _; obtain ⟨k9, m2, h⟩ := succ_of (f := fun n => M_b_Rank_L1 a0 a1 n x1.2.1 x1.2.2) rfl h; replace h : M_b_Rank_L1 a0 a1 (k9 + 1) x1.2.1 x1.2.2 = some r1 := h; rw [M_b_Rank_L1] at h; refine aSq ?_; refine aRg ?_; intro _; refine dr_XDDis ?_; refine aSq ?_; refine aCd ?_; intro _; refine spl h (fun c3 h => ?_) (fun c3 h => ?_)
    · refine aSk ?_; refine aSq ?_; refine aBk ?_; refine aSq ?_; refine aRg ?_; intro _; refine dr_XDDis ?_; refine aRg ?_; intro _; obtain ⟨y10, w4, q5, h⟩ := ix_ok h; refine Exists.intro (cI y10) (And.intro (map_at' w4) ?_); intro _; obtain ⟨y11, w6, q7, h⟩ := ix_ok h; refine Exists.intro (cI y11) (And.intro (map_at' w6) ?_); intro _; refine pr_XDDis ?_; refine pr_XDDis ?_; refine dr_XDDis ?_; refine aRg ?_; intro _; refine dr_XDDis ?_; refine ⟨(k9, (IntKind.i64.wrap ((IntKind.i64.wrap (x1.2.1 * y10)) + y11)), (IntKind.i64.wrap (x1.2.2 + 1))), h, ltS m2, ?_⟩; exact ca_XDDis
    · refine aEx ?_; refine aSq ?_; refine aRg ?_; intro _; refine dr_XDDis ?_; refine aRt ?_; intro _; obtain rfl := inj1 h; exact ca_XDDis
def M_b_Edges_L1 (a0 : GTask) (v68 : Int) (y88 : List Int) : Nat → Int → (List GEdge) → Option (List GEdge)
  | 0, _, _ => none
  | k99 + 1, v97, v98 =>
    sel (decide (v97 < ((a0.Ops.map cGOp).length : Int)))
     (ob2 (M_b_Apply a0 y88 v97) (fun z100 z101 =>
       sel z101
        (ob1 (M_b_Rank a0.Vars z100) (fun z102 =>
          grd ((v98.length + 1) * 24 ≤ 140737488355328) (M_b_Edges_L1 a0 v68 y88 k99 (IntKind.i64.wrap (v97 + 1)) (v98 ++ [{ From := v68, Op := v97, To := z102 : GEdge }]))))
        (M_b_Edges_L1 a0 v68 y88 k99 (IntKind.i64.wrap (v97 + 1)) v98)))
     (some v98)
def M_b_Edges_L2 (a0 : GTask) (z1 : List (List Int)) : Nat → Int → (List GEdge) → Option (List GEdge)
  | 0, _, _ => none
  | k70 + 1, v68, v69 =>
    sel (decide (v68 < ((z1.map cL_cI).length : Int)))
     (ob1 (ix z1 v68 (fun y88 =>
        M_b_Edges_L1 a0 v68 y88 ((((a0.Ops.map cGOp).length : Int)).toNat + 1) 0 v69) : Option (List GEdge))
       (fun v86 => M_b_Edges_L2 a0 z1 k70 (IntKind.i64.wrap (v68 + 1)) v86))
     (grd (v69.length ≤ 140737488355328) (some v69))
def M_b_Edges (a0 : GTask) : Option (List GEdge) :=
  ob1 (M_b_States a0.Vars) (fun z1 =>
   M_b_Edges_L2 a0 z1 ((((z1.map cL_cI).length : Int)).toNat + 1) 0 [])
set_option maxHeartbeats 16000000 in
set_option maxRecDepth 100000 in
theorem A_b_Edges (a0 : GTask) {r1 : List GEdge} (h : M_b_Edges a0 = some r1) : ACall cx 65 [.agg [.sl 1 (a0.Vars.map cI), .sl 1 (a0.Init.map cI), .sl 2 (a0.Goal.map cF), .sl 4 (a0.Ops.map cGOp)]] (.sl 3 (r1.map cGEdge)) := by
  refine aOf Tryz.func65 rfl (by decide) rfl (Nat.le_of_ble_eq_true rfl) ?_; intro _; unfold M_b_Edges at h; refine aSq ?_; refine aRg ?_; intro _; refine dr_XDDis ?_; refine aSq ?_; refine aRg ?_; intro _; refine dr_XDDis ?_; refine aSq ?_; refine aSq ?_; refine aRg ?_; intro _; obtain ⟨z1, u1, h⟩ := ob1_ok h; refine cl_XDDis rfl (A_b_States a0.Vars u1) ?_; intro _; refine dr_XDDis ?_; refine aBk ?_; refine awp_loop (α := Nat × Int × (List GEdge)) (fun x => mkS 45 [(1, .ptr 1 0 0 0), (3, .own 41 0 0 x.2.2.length), (11, .sl 1 (z1.map cL_cI)), (12, .c (.int .i64 ((z1.map cL_cI).length : Int))), (13, .c (.int .i64 x.2.1))] [(1, ⟨26, 4, true, [[.sl 1 (a0.Vars.map cI), .sl 1 (a0.Init.map cI), .sl 2 (a0.Goal.map cF), .sl 4 (a0.Ops.map cGOp)]]⟩), (41, ⟨103, 3, false, x.2.2.map cGEdge⟩)]) (fun x => M_b_Edges_L2 a0 z1 x.1 x.2.1 x.2.2 = some r1) (fun x => x.1) ((((z1.map cL_cI).length : Int)).toNat + 1, 0, []) h ?_ ?_
  · exact ca_XDDis
  · intro x2 h; intro _; obtain ⟨k70, m3, h⟩ := succ_of (f := fun n => M_b_Edges_L2 a0 z1 n x2.2.1 x2.2.2) rfl h; replace h : M_b_Edges_L2 a0 z1 (k70 + 1) x2.2.1 x2.2.2 = some r1 := h; rw [M_b_Edges_L2] at h; refine aSq ?_; refine aRg ?_; intro _; refine dr_XDDis ?_; refine aSq ?_; refine aCd ?_; intro _; refine spl h (fun c4 h => ?_) (fun c4 h => ?_)
    · refine aSk ?_; obtain ⟨o5, h, hK6⟩ := ob1_ok h; refine awp_cut (α := List GEdge) (fun v86 => mkS 45 [(1, .ptr 1 0 0 0), (3, .own 41 0 0 v86.length), (11, .sl 1 (z1.map cL_cI)), (12, .c (.int .i64 ((z1.map cL_cI).length : Int))), (13, .c (.int .i64 x2.2.1))] [(1, ⟨26, 4, true, [[.sl 1 (a0.Vars.map cI), .sl 1 (a0.Init.map cI), .sl 2 (a0.Goal.map cF), .sl 4 (a0.Ops.map cGOp)]]⟩), (41, ⟨103, 3, false, v86.map cGEdge⟩)]) (fun v => o5 = v) ?_ ?_
      · refine aBk ?_; refine aSq ?_; refine aRg ?_; intro _; obtain ⟨y88, w7, q8, h⟩ := ix_ok h; refine Exists.intro (cL_cI y88) (And.intro (map_at' w7) ?_); intro _; refine pr_XDDis ?_; refine dr_XDDis ?_; refine aSq ?_; refine aRg ?_; intro _; refine dr_XDDis ?_; refine aBk ?_; refine awp_loop (α := Nat × Int × (List GEdge)) (fun x => mkS 45 [(1, .ptr 1 0 0 0), (3, .own 41 0 0 x.2.2.length), (4, .c (.int .i64 x2.2.1)), (5, .sl 1 (y88.map cI)), (11, .sl 1 (z1.map cL_cI)), (12, .c (.int .i64 ((z1.map cL_cI).length : Int))), (13, .c (.int .i64 x2.2.1)), (20, .c (.int .i64 ((a0.Ops.map cGOp).length : Int))), (21, .c (.int .i64 x.2.1))] [(1, ⟨26, 4, true, [[.sl 1 (a0.Vars.map cI), .sl 1 (a0.Init.map cI), .sl 2 (a0.Goal.map cF), .sl 4 (a0.Ops.map cGOp)]]⟩), (41, ⟨103, 3, false, x.2.2.map cGEdge⟩)]) (fun x => M_b_Edges_L1 a0 x2.2.1 y88 x.1 x.2.1 x.2.2 = some o5) (fun x => x.1) ((((a0.Ops.map cGOp).length : Int)).toNat + 1, 0, x2.2.2) h ?_ ?_
        · exact ca_XDDis
        · intro x9 h; intro _; obtain ⟨k99, m10, h⟩ := succ_of (f := fun n => M_b_Edges_L1 a0 x2.2.1 y88 n x9.2.1 x9.2.2) rfl h; replace h : M_b_Edges_L1 a0 x2.2.1 y88 (k99 + 1) x9.2.1 x9.2.2 = some o5 := h; rw [M_b_Edges_L1] at h; refine aSq ?_; refine aRg ?_; intro _; refine dr_XDDis ?_; refine aSq ?_; refine aCd ?_; intro _; refine spl h (fun c11 h => ?_) (fun c11 h => ?_)
          · refine aSk ?_; refine aSq ?_; refine aBk ?_; refine aSq ?_; refine aRg ?_; intro _; refine dr_XDDis ?_; refine aSq ?_; refine aRg ?_; intro _; obtain ⟨z100, z101, u12, h⟩ := ob2_ok h; refine cl_XDDis rfl (A_b_Apply a0 y88 x9.2.1 u12) ?_; intro _; refine dr_XDDis ?_; refine aSq ?_; refine aRg ?_; intro _; refine dr_XDDis ?_; refine aCd ?_; intro _; refine spl h (fun c13 h => ?_) (fun c13 h => ?_)
            · refine aRg ?_; intro _; obtain ⟨z102, u14, h⟩ := ob1_ok h; refine cl_XDDis rfl (A_b_Rank a0.Vars z100 u14) ?_; intro _; obtain ⟨q15, h⟩ := grd_ok h; refine pl_XDDis ?_; refine pl_XDDis ?_; refine And.intro (by first | with_reducible assumption | (show (x9.2.2.length + 1) * 24 ≤ 140737488355328; with_reducible assumption) | omega | (simp; omega)) ?_; refine pe_XDDis ?_; refine dr_XDDis ?_; refine aRg ?_; intro _; refine dr_XDDis ?_; refine ⟨(k99, (IntKind.i64.wrap (x9.2.1 + 1)), (x9.2.2 ++ [{ From := x2.2.1, Op := x9.2.1, To := z102 : GEdge }])), h, ltS m10, ?_⟩; exact ca_XDDis
            · refine aSk ?_; refine aRg ?_; intro _; refine dr_XDDis ?_; refine ⟨(k99, (IntKind.i64.wrap (x9.2.1 + 1)), x9.2.2), h, ltS m10, ?_⟩; exact ca_XDDis
          · refine aEx ?_; refine ⟨x9.2.2, (Option.some.inj h).symm, ?_⟩; exact ca_XDDis
      · rintro v86 ho; have ho := ho.symm; subst ho; intro _; replace h := hK6; refine aRg ?_; intro _; refine dr_XDDis ?_; refine ⟨(k70, (IntKind.i64.wrap (x2.2.1 + 1)), v86), h, ltS m3, ?_⟩; exact ca_XDDis
    · refine aEx ?_; refine aSq ?_; refine aRg ?_; intro _; refine dr_XDDis ?_; refine aRt ?_; obtain ⟨q16, h⟩ := grd_ok h; intro _; obtain rfl := inj1 h; exact ca_XDDis
def M_b_Distances_L1 (a0 : GTask) (z1 : List (List Int)) : Nat → Int → (List Int) → Option (List Int)
  | 0, _, _ => none
  | k33 + 1, v31, v32 =>
    sel (decide (v31 < ((z1.map cL_cI).length : Int)))
     (ix z1 v31 (fun y34 =>
       ixn v32 ((v31).toNat) (fun _ =>
        grd (v31 < ((v32.length : Nat) : Int)) (ob1 (M_b_Holds a0.Goal y34) (fun z36 =>
         sel z36
          (ixn (v32.set ((v31).toNat) 1125899906842624) ((v31).toNat) (fun _ =>
            M_b_Distances_L1 a0 z1 k33 (IntKind.i64.wrap (v31 + 1)) ((v32.set ((v31).toNat) 1125899906842624).set ((v31).toNat) 0)))
          (M_b_Distances_L1 a0 z1 k33 (IntKind.i64.wrap (v31 + 1)) (v32.set ((v31).toNat) 1125899906842624)))))))
     (some v32)
def M_b_Distances_L2 (a0 : GTask) (z38 : List GEdge) : Nat → Bool → Int → (List Int) → Option (Bool × (List Int))
  | 0, _, _, _ => none
  | k315 + 1, v312, v313, v314 =>
    sel (decide (v313 < ((z38.map cGEdge).length : Int)))
     (ix z38 v313 (fun y316 =>
       ix a0.Ops y316.Op (fun y317 =>
        ob1 (some () : Option (Unit))
         (fun _ => ob1 (ixn v314 ((y316.To).toNat) (fun y324 =>
             sel (decide (y324 < 1125899906842624))
              (ixn v314 ((y316.To).toNat) (fun y325 =>
                ixn v314 ((y316.From).toNat) (fun y326 =>
                 grd (0 ≤ y316.To) (grd (y316.To < ((v314.length : Nat) : Int)) (grd (0 ≤ y316.From) (grd (y316.From < ((v314.length : Nat) : Int)) (some (decide ((IntKind.i64.wrap (y325 + y317.Cost)) < y326)))))))))
              (grd (0 ≤ y316.To) (grd (y316.To < ((v314.length : Nat) : Int)) (some false)))) : Option (Bool))
            (fun v322 => sel v322
               (ixn v314 ((y316.To).toNat) (fun y327 =>
                 ixn v314 ((y316.From).toNat) (fun _ =>
                  grd (0 ≤ y316.To) (grd (y316.To < ((v314.length : Nat) : Int)) (grd (0 ≤ y316.From) (grd (y316.From < ((v314.length : Nat) : Int)) (M_b_Distances_L2 a0 z38 k315 true (IntKind.i64.wrap (v313 + 1)) (v314.set ((y316.From).toNat) (IntKind.i64.wrap (y327 + y317.Cost))))))))))
               (M_b_Distances_L2 a0 z38 k315 v312 (IntKind.i64.wrap (v313 + 1)) v314))))))
     (some (v312, v314))
def M_b_Distances_L3 (a0 : GTask) (z38 : List GEdge) : Nat → Bool → (List Int) → Option (List Int)
  | 0, _, _ => none
  | k233 + 1, v231, v232 =>
    sel v231
     (ob1 (M_b_Distances_L2 a0 z38 ((((z38.map cGEdge).length : Int)).toNat + 1) false 0 v232 : Option (Bool × (List Int)))
       (fun (v280, v281) => M_b_Distances_L3 a0 z38 k233 v280 v281))
     (grd (v232.length ≤ 140737488355328) (some v232))
def M_b_Distances (g : Nat) (a0 : GTask) (_ : List Int) : Option (List Int) :=
  ob1 (M_b_States a0.Vars) (fun z1 =>
   grd (0 ≤ ((z1.map cL_cI).length : Int)) (grd (((z1.map cL_cI).length : Int) * 8 ≤ 281474976710656) (ob1 (M_b_Distances_L1 a0 z1 ((((z1.map cL_cI).length : Int)).toNat + 1) 0 (List.replicate ((z1.map cL_cI).length : Int).toNat 0) : Option (List Int))
    (fun v19 => ob1 (M_b_Edges a0) (fun z38 =>
       M_b_Distances_L3 a0 z38 g true v19)))))
set_option maxHeartbeats 16000000 in
set_option maxRecDepth 100000 in
theorem A_b_Distances (g : Nat) (a0 : GTask) (a1 : List Int) {r1 : List Int} (h : M_b_Distances g a0 a1 = some r1) : ACall cx 39 [.agg [.sl 1 (a0.Vars.map cI), .sl 1 (a0.Init.map cI), .sl 2 (a0.Goal.map cF), .sl 4 (a0.Ops.map cGOp)], .c (.slice none 0 0)] (.sl 1 (r1.map cI)) := by
  refine aOf Tryz.func39 rfl (by decide) rfl (Nat.le_of_ble_eq_true rfl) ?_; intro _; unfold M_b_Distances at h; refine aSq ?_; refine aRg ?_; intro _; refine dr_XDDis ?_; refine aSq ?_; refine aRg ?_; intro _; obtain ⟨z1, u1, h⟩ := ob1_ok h; refine cl_XDDis rfl (A_b_States a0.Vars u1) ?_; intro _; refine dr_XDDis ?_; refine aSq ?_; refine aRg ?_; intro _; obtain ⟨q2, h⟩ := grd_ok h; obtain ⟨q3, h⟩ := grd_ok h; refine ⟨_, lf_make rfl rfl (Nat.le_of_ble_eq_true rfl) (tyTab_ok 22 _ rfl) rfl (tyTab_ok 3 _ rfl) rfl rfl rfl (by first | assumption | omega) (by first | assumption | (show _ * (8 : Int) ≤ _; omega) | omega) (by omega) rfl (by simp only [Value.cells]; simp [Value.oneCell']) (by decide), ?_⟩; intro _; refine dr_XDDis ?_; obtain ⟨o4, h, hK5⟩ := ob1_ok h; refine awp_cut (α := List Int) (fun v19 => mkS 95 [(1, .c (.slice none 0 0)), (2, .ptr 2 0 0 0), (6, .own 19 0 0 v19.length)] [(2, ⟨26, 4, true, [[.sl 1 (a0.Vars.map cI), .sl 1 (a0.Init.map cI), .sl 2 (a0.Goal.map cF), .sl 4 (a0.Ops.map cGOp)]]⟩), (19, ⟨3, 1, false, v19.map cI⟩)]) (fun v => o4 = v) ?_ ?_
  · refine aSq ?_; refine aRg ?_; intro _; refine dr_XDDis ?_; refine aBk ?_; refine awp_loop (α := Nat × Int × (List Int)) (fun x => mkS 95 [(1, .c (.slice none 0 0)), (2, .ptr 2 0 0 0), (6, .own 19 0 0 x.2.2.length), (20, .sl 1 (z1.map cL_cI)), (21, .c (.int .i64 ((z1.map cL_cI).length : Int))), (22, .c (.int .i64 x.2.1))] [(2, ⟨26, 4, true, [[.sl 1 (a0.Vars.map cI), .sl 1 (a0.Init.map cI), .sl 2 (a0.Goal.map cF), .sl 4 (a0.Ops.map cGOp)]]⟩), (19, ⟨3, 1, false, x.2.2.map cI⟩)]) (fun x => M_b_Distances_L1 a0 z1 x.1 x.2.1 x.2.2 = some o4) (fun x => x.1) ((((z1.map cL_cI).length : Int)).toNat + 1, 0, (List.replicate ((z1.map cL_cI).length : Int).toNat 0)) h ?_ ?_
    · exact ca_XDDis
    · intro x6 h; intro _; obtain ⟨k33, m7, h⟩ := succ_of (f := fun n => M_b_Distances_L1 a0 z1 n x6.2.1 x6.2.2) rfl h; replace h : M_b_Distances_L1 a0 z1 (k33 + 1) x6.2.1 x6.2.2 = some o4 := h; rw [M_b_Distances_L1] at h; refine aSq ?_; refine aRg ?_; intro _; refine dr_XDDis ?_; refine aSq ?_; refine aCd ?_; intro _; refine spl h (fun c8 h => ?_) (fun c8 h => ?_)
      · refine aSk ?_; refine aSq ?_; refine aBk ?_; refine aSq ?_; refine aRg ?_; intro _; obtain ⟨y34, w9, q10, h⟩ := ix_ok h; refine Exists.intro (cL_cI y34) (And.intro (map_at' w9) ?_); intro _; refine pr_XDDis ?_; refine dr_XDDis ?_; refine aSq ?_; refine aRg ?_; intro _; obtain ⟨y35, w11, h⟩ := ixn_ok h; refine Exists.intro (cI y35) (And.intro (by first | exact map_at' w11 | (have w := map_at' (f := cI) w11; simpa [cI] using w)) ?_); intro _; obtain ⟨q12, h⟩ := grd_ok h; refine pr_XDDis ?_; refine pr_XDDis ?_; refine dr_XDDis ?_; refine aSq ?_; refine aRg ?_; intro _; obtain ⟨z36, u13, h⟩ := ob1_ok h; refine cl_XDDis rfl (A_b_Holds a0.Goal y34 u13) ?_; intro _; refine dr_XDDis ?_; refine aCd ?_; intro _; refine spl h (fun c14 h => ?_) (fun c14 h => ?_)
        · refine aRg ?_; intro _; obtain ⟨y37, w15, h⟩ := ixn_ok h; refine Exists.intro (cI y37) (And.intro (by first | exact map_at' w15 | (have w := map_at' (f := cI) w15; simpa [cI] using w)) ?_); intro _; refine pr_XDDis ?_; refine pr_XDDis ?_; refine dr_XDDis ?_; refine aRg ?_; intro _; refine dr_XDDis ?_; refine ⟨(k33, (IntKind.i64.wrap (x6.2.1 + 1)), ((x6.2.2.set ((x6.2.1).toNat) 1125899906842624).set ((x6.2.1).toNat) 0)), h, ltS m7, ?_⟩; exact ca_XDDis
        · refine aSk ?_; refine aRg ?_; intro _; refine dr_XDDis ?_; refine ⟨(k33, (IntKind.i64.wrap (x6.2.1 + 1)), (x6.2.2.set ((x6.2.1).toNat) 1125899906842624)), h, ltS m7, ?_⟩; exact ca_XDDis
      · refine aEx ?_; refine ⟨x6.2.2, (Option.some.inj h).symm, ?_⟩; exact ca_XDDis
  · rintro v19 ho; have ho := ho.symm; subst ho; intro _; replace h := hK5; refine aSq ?_; refine aRg ?_; intro _; obtain ⟨z38, u16, h⟩ := ob1_ok h; refine cl_XDDis rfl (A_b_Edges a0 u16) ?_; intro _; refine dr_XDDis ?_; refine aSq ?_; refine aSq ?_; refine aRg ?_; intro _; refine dr_XDDis ?_; refine aBk ?_; refine awp_loop (α := Nat × Bool × (List Int)) (fun x => mkS 95 [(1, .c (.slice none 0 0)), (2, .ptr 2 0 0 0), (6, .own 19 0 0 x.2.2.length), (9, .sl 3 (z38.map cGEdge)), (10, .c (.bool x.2.1))] [(2, ⟨26, 4, true, [[.sl 1 (a0.Vars.map cI), .sl 1 (a0.Init.map cI), .sl 2 (a0.Goal.map cF), .sl 4 (a0.Ops.map cGOp)]]⟩), (19, ⟨3, 1, false, x.2.2.map cI⟩)]) (fun x => M_b_Distances_L3 a0 z38 x.1 x.2.1 x.2.2 = some r1) (fun x => x.1) (g, true, v19) h ?_ ?_
    · exact ca_XDDis
    · intro x17 h; intro _; obtain ⟨k233, m18, h⟩ := succ_of (f := fun n => M_b_Distances_L3 a0 z38 n x17.2.1 x17.2.2) rfl h; replace h : M_b_Distances_L3 a0 z38 (k233 + 1) x17.2.1 x17.2.2 = some r1 := h; rw [M_b_Distances_L3] at h; refine aSq ?_; refine aSq ?_; refine aRg ?_; intro _; refine dr_XDDis ?_; refine aCd ?_; intro _; refine spl h (fun c19 h => ?_) (fun c19 h => ?_)
      · refine aSk ?_; refine aBk ?_; refine aSq ?_; refine aRg ?_; intro _; refine dr_XDDis ?_; refine aSq ?_; refine aRg ?_; intro _; refine dr_XDDis ?_; obtain ⟨o20, h, hK21⟩ := ob1_ok h; refine awp_cutT (α := Bool × (List Int)) (fun (v280, v281) => mkS 95 [(1, .c (.slice none 0 0)), (2, .ptr 2 0 0 0), (6, .own 19 0 0 v281.length), (9, .sl 3 (z38.map cGEdge)), (10, .c (.bool v280))] [(2, ⟨26, 4, true, [[.sl 1 (a0.Vars.map cI), .sl 1 (a0.Init.map cI), .sl 2 (a0.Goal.map cF), .sl 4 (a0.Ops.map cGOp)]]⟩), (19, ⟨3, 1, false, v281.map cI⟩)]) (fun v => o20 = v) ?_ ?_
        · refine aBk ?_; refine awp_loop (α := Nat × Bool × Int × (List Int)) (fun x => mkS 95 [(1, .c (.slice none 0 0)), (2, .ptr 2 0 0 0), (6, .own 19 0 0 x.2.2.2.length), (9, .sl 3 (z38.map cGEdge)), (10, .c (.bool x.2.1)), (41, .sl 3 (z38.map cGEdge)), (42, .c (.int .i64 ((z38.map cGEdge).length : Int))), (43, .c (.int .i64 x.2.2.1))] [(2, ⟨26, 4, true, [[.sl 1 (a0.Vars.map cI), .sl 1 (a0.Init.map cI), .sl 2 (a0.Goal.map cF), .sl 4 (a0.Ops.map cGOp)]]⟩), (19, ⟨3, 1, false, x.2.2.2.map cI⟩)]) (fun x => M_b_Distances_L2 a0 z38 x.1 x.2.1 x.2.2.1 x.2.2.2 = some o20) (fun x => x.1) ((((z38.map cGEdge).length : Int)).toNat + 1, false, 0, x17.2.2) h ?_ ?_
          · exact ca_XDDis
          · intro x22 h; intro _; obtain ⟨k315, m23, h⟩ := succ_of (f := fun n => M_b_Distances_L2 a0 z38 n x22.2.1 x22.2.2.1 x22.2.2.2) rfl h; replace h : M_b_Distances_L2 a0 z38 (k315 + 1) x22.2.1 x22.2.2.1 x22.2.2.2 = some o20 := h; rw [M_b_Distances_L2] at h; refine aSq ?_; refine aRg ?_; intro _; refine dr_XDDis ?_; refine aSq ?_; refine aCd ?_; intro _; refine spl h (fun c24 h => ?_) (fun c24 h => ?_)
            · refine aSk ?_; refine aSq ?_; refine aBk ?_; refine aSq ?_; refine aRg ?_; intro _; obtain ⟨y316, w25, q26, h⟩ := ix_ok h; refine Exists.intro (cGEdge y316) (And.intro (map_at' w25) ?_); intro _; refine pr_XDDis ?_; refine dr_XDDis ?_; refine aSq ?_; refine aRg ?_; intro _; obtain ⟨y317, w27, q28, h⟩ := ix_ok h; refine Exists.intro (cGOp y317) (And.intro (map_at' w27) ?_); intro _; refine pr_XDDis ?_; refine dr_XDDis ?_; obtain ⟨o29, h, hK30⟩ := ob1_ok h; refine awp_cut (α := Unit) (fun _ => mkS 95 [(1, .c (.slice none 0 0)), (2, .ptr 2 0 0 0), (6, .own 19 0 0 x22.2.2.2.length), (9, .sl 3 (z38.map cGEdge)), (10, .c (.bool x22.2.1)), (12, .ptr 12 0 0 0), (13, .c (.int .i64 y317.Cost)), (41, .sl 3 (z38.map cGEdge)), (42, .c (.int .i64 ((z38.map cGEdge).length : Int))), (43, .c (.int .i64 x22.2.2.1))] [(2, ⟨26, 4, true, [[.sl 1 (a0.Vars.map cI), .sl 1 (a0.Init.map cI), .sl 2 (a0.Goal.map cF), .sl 4 (a0.Ops.map cGOp)]]⟩), (12, ⟨103, 3, true, [[.c (.int .i64 y316.From), .c (.int .i64 y316.Op), .c (.int .i64 y316.To)]]⟩), (19, ⟨3, 1, false, x22.2.2.2.map cI⟩)]) (fun v => o29 = v) ?_ ?_
              · refine aSq ?_; refine aRg ?_; intro _; refine ⟨_, lf_nilneq rfl (Nat.le_of_ble_eq_true rfl) rfl rfl (tyTab_ok 22 _ rfl) rfl, ?_⟩; intro _; refine dr_XDDis ?_; refine aCd ?_; intro _; refine litF ?_; refine aSk ?_; refine ⟨(), (Option.some.inj h).symm, ?_⟩; exact ca_XDDis
              · rintro _ ho; have ho := ho.symm; subst ho; intro _; replace h := hK30; obtain ⟨o31, h, hK32⟩ := ob1_ok h; refine awp_cut (α := Bool) (fun v322 => mkS 95 [(1, .c (.slice none 0 0)), (2, .ptr 2 0 0 0), (6, .own 19 0 0 x22.2.2.2.length), (9, .sl 3 (z38.map cGEdge)), (10, .c (.bool x22.2.1)), (12, .ptr 12 0 0 0), (13, .c (.int .i64 y317.Cost)), (41, .sl 3 (z38.map cGEdge)), (42, .c (.int .i64 ((z38.map cGEdge).length : Int))), (43, .c (.int .i64 x22.2.2.1)), (81, .c (.bool v322))] [(2, ⟨26, 4, true, [[.sl 1 (a0.Vars.map cI), .sl 1 (a0.Init.map cI), .sl 2 (a0.Goal.map cF), .sl 4 (a0.Ops.map cGOp)]]⟩), (12, ⟨103, 3, true, [[.c (.int .i64 y316.From), .c (.int .i64 y316.Op), .c (.int .i64 y316.To)]]⟩), (19, ⟨3, 1, false, x22.2.2.2.map cI⟩)]) (fun v => o31 = v) ?_ ?_
                · refine aRg ?_; intro _; obtain ⟨y324, w33, h⟩ := ixn_ok h; refine Exists.intro (cI y324) (And.intro (by first | exact map_at' w33 | (have w := map_at' (f := cI) w33; simpa [cI] using w)) ?_); intro _; refine spl h (fun c34 h => ?_) (fun c34 h => ?_)
                  · intro _; obtain ⟨y325, w35, h⟩ := ixn_ok h; refine Exists.intro (cI y325) (And.intro (by first | exact map_at' w35 | (have w := map_at' (f := cI) w35; simpa [cI] using w)) ?_); intro _; obtain ⟨y326, w36, h⟩ := ixn_ok h; refine Exists.intro (cI y326) (And.intro (by first | exact map_at' w36 | (have w := map_at' (f := cI) w36; simpa [cI] using w)) ?_); intro _; obtain ⟨q37, h⟩ := grd_ok h; obtain ⟨q38, h⟩ := grd_ok h; obtain ⟨q39, h⟩ := grd_ok h; obtain ⟨q40, h⟩ := grd_ok h; refine pr_XDDis ?_; refine pr_XDDis ?_; refine pr_XDDis ?_; refine pr_XDDis ?_; refine pr_XDDis ?_; refine pr_XDDis ?_; refine dr_XDDis ?_; refine ⟨(decide ((IntKind.i64.wrap (y325 + y317.Cost)) < y326)), (Option.some.inj h).symm, ?_⟩; exact ca_XDDis
                  · intro _; obtain ⟨q41, h⟩ := grd_ok h; obtain ⟨q42, h⟩ := grd_ok h; refine pr_XDDis ?_; refine pr_XDDis ?_; refine dr_XDDis ?_; refine ⟨false, (Option.some.inj h).symm, ?_⟩; exact ca_XDDis
                · rintro v322 ho; have ho := ho.symm; subst ho; intro _; replace h := hK32; refine aCd ?_; intro _; refine spl h (fun c43 h => ?_) (fun c43 h => ?_)
                  · refine aSq ?_; refine aRg ?_; intro _; obtain ⟨y327, w44, h⟩ := ixn_ok h; refine Exists.intro (cI y327) (And.intro (by first | exact map_at' w44 | (have w := map_at' (f := cI) w44; simpa [cI] using w)) ?_); intro _; obtain ⟨y328, w45, h⟩ := ixn_ok h; refine Exists.intro (cI y328) (And.intro (by first | exact map_at' w45 | (have w := map_at' (f := cI) w45; simpa [cI] using w)) ?_); intro _; obtain ⟨q46, h⟩ := grd_ok h; obtain ⟨q47, h⟩ := grd_ok h; obtain ⟨q48, h⟩ := grd_ok h; obtain ⟨q49, h⟩ := grd_ok h; refine pr_XDDis ?_; refine pr_XDDis ?_; refine pr_XDDis ?_; refine pr_XDDis ?_; refine dr_XDDis ?_; refine aRg ?_; intro _; refine dr_XDDis ?_; refine aRg ?_; intro _; refine dr_XDDis ?_; refine ⟨(k315, true, (IntKind.i64.wrap (x22.2.2.1 + 1)), (x22.2.2.2.set ((y316.From).toNat) (IntKind.i64.wrap (y327 + y317.Cost)))), h, ltS m23, ?_⟩; exact ca_XDDis
                  · refine aSk ?_; refine aRg ?_; intro _; refine dr_XDDis ?_; refine ⟨(k315, x22.2.1, (IntKind.i64.wrap (x22.2.2.1 + 1)), x22.2.2.2), h, ltS m23, ?_⟩; exact ca_XDDis
            · refine aEx ?_; refine ⟨(x22.2.1, x22.2.2.2), (Option.some.inj h).symm, ?_⟩; exact ca_XDDis
        · rintro ⟨v280, v281⟩ ho; have ho := ho.symm; subst ho; intro _; replace h := hK21; refine ⟨(k233, v280, v281), h, ltS m18, ?_⟩; exact ca_XDDis
      · refine aEx ?_; refine aSq ?_; refine aRg ?_; intro _; refine dr_XDDis ?_; refine aRt ?_; obtain ⟨q50, h⟩ := grd_ok h; intro _; obtain rfl := inj1 h; exact ca_XDDis
end Go.Proofs.YtcpajbglcgbolaaGreat.Am
/- Range loops of the models as recursions. -/
namespace Go.Proofs.YtcpajbglcgbolaaGreat.Am
def M_b_Rank_L1_B (a0 : List Int) (_ : List Int) (_y11 : Int) (v8 : Int) : ((Int)) → (((Int)) → Option (Int)) → Option (Int) := fun v7 rc => ix a0 v8 (fun y10 =>
       ixv _y11 (fun y11 =>
        rc ((IntKind.i64.wrap ((IntKind.i64.wrap (v7 * y10)) + y11)))))
def M_b_Rank_L1_E (_ : List Int) (_ : List Int) : ((Int)) → Option (Int) := fun v7 => some v7
theorem M_b_Rank_L1_rg (a0 : List Int) (a1 : List Int) (hl : a1.length < 9223372036854775807) : ∀ (k n : Nat) (v7 : Int), n ≤ a1.length → a1.length < k + n → M_b_Rank_L1 a0 a1 k v7 (n : Int) = Rg (M_b_Rank_L1_B a0 a1) (M_b_Rank_L1_E a0 a1) (a1.drop n) n v7 := by
  intro k n v7
  refine rg_of (L := fun k i (p : ((Int))) => match p with | v7 => M_b_Rank_L1 a0 a1 k v7 i) hl (fun k n p y hy hn => ?_) (fun k p => ?_) k n v7
  · have h1 := lt_some hy
    have h2 := w64s hn
    first | (simp only [M_b_Rank_L1, M_b_Rank_L1_B, List.length_map, decide_lt h1, sel, ix_at hy, ixv, h2]; done) | (simp only [List.length_map] at h1 hy; simp only [M_b_Rank_L1, M_b_Rank_L1_B, List.length_map, decide_lt h1, sel, ix_at hy, ixv, h2]; done)
  · simp only [M_b_Rank_L1, M_b_Rank_L1_E, List.length_map, decide_ge, sel]
theorem M_b_Rank_L1_eq (a0 : List Int) (a1 : List Int) (v7 : Int) (hl : a1.length < 9223372036854775807) : M_b_Rank_L1 a0 a1 (((a1.map cI).length : Int).toNat + 1) v7 0 = Rg (M_b_Rank_L1_B a0 a1) (M_b_Rank_L1_E a0 a1) a1 0 v7 := by
  have h := M_b_Rank_L1_rg a0 a1 hl (a1.length + 1) 0 v7 (Nat.zero_le _) (by omega)
  rw [List.length_map, Int.toNat_natCast]
  exact h
def M_b_Edges_L1_B (a0 : GTask) (v68 : Int) (y88 : List Int) (v97 : Int) : ((List GEdge)) → (((List GEdge)) → Option (List GEdge)) → Option (List GEdge) := fun v98 rc => ob2 (M_b_Apply a0 y88 v97) (fun z100 z101 =>
       sel z101
        (ob1 (M_b_Rank a0.Vars z100) (fun z102 =>
          grd ((v98.length + 1) * 24 ≤ 140737488355328) (rc ((v98 ++ [{ From := v68, Op := v97, To := z102 : GEdge }])))))
        (rc (v98)))
def M_b_Edges_L1_E (_ : GTask) (_ : Int) (_ : List Int) : ((List GEdge)) → Option (List GEdge) := fun v98 => some v98
theorem M_b_Edges_L1_rg (a0 : GTask) (v68 : Int) (y88 : List Int) {m : Nat} (hm : ((a0.Ops.map cGOp).length : Int) = (m : Int)) (hl : m < 9223372036854775807) : ∀ (k n : Nat) (v98 : List GEdge), n ≤ m → m < k + n → M_b_Edges_L1 a0 v68 y88 k (n : Int) v98 = Rn (M_b_Edges_L1_B a0 v68 y88) (M_b_Edges_L1_E a0 v68 y88) (m - n) n v98 := by
  intro k n v98
  refine rn_of (L := fun k i (p : ((List GEdge))) => match p with | v98 => M_b_Edges_L1 a0 v68 y88 k i v98) hl (fun k n p hn => ?_) (fun k p => ?_) k n v98
  · have h2 := w64s (Nat.lt_trans hn hl)
    simp only [M_b_Edges_L1, M_b_Edges_L1_B, hm, decide_lt hn, sel, h2]
  · simp only [M_b_Edges_L1, M_b_Edges_L1_E, hm, decide_ge, sel]
theorem M_b_Edges_L1_eq (a0 : GTask) (v68 : Int) (y88 : List Int) (v98 : List GEdge) {m : Nat} (hm : ((a0.Ops.map cGOp).length : Int) = (m : Int)) (hl : m < 9223372036854775807) : M_b_Edges_L1 a0 v68 y88 ((((a0.Ops.map cGOp).length : Int)).toNat + 1) 0 v98 = Rn (M_b_Edges_L1_B a0 v68 y88) (M_b_Edges_L1_E a0 v68 y88) m 0 v98 := by
  have h := M_b_Edges_L1_rg a0 v68 y88 hm hl (m + 1) 0 v98 (Nat.zero_le _) (by omega)
  have e : (((a0.Ops.map cGOp).length : Int)).toNat = m := by rw [hm, Int.toNat_natCast]
  rw [e]
  exact h
def M_b_Edges_L2_B (a0 : GTask) (_ : List (List Int)) (_y88 : List Int) (v68 : Int) : ((List GEdge)) → (((List GEdge)) → Option (List GEdge)) → Option (List GEdge) := fun v69 rc => ob1 (ixv _y88 (fun y88 =>
        M_b_Edges_L1 a0 v68 y88 ((((a0.Ops.map cGOp).length : Int)).toNat + 1) 0 v69) : Option (List GEdge))
       (fun v86 => rc (v86))
def M_b_Edges_L2_E (_ : GTask) (_ : List (List Int)) : ((List GEdge)) → Option (List GEdge) := fun v69 => grd (v69.length ≤ 140737488355328) (some v69)
theorem M_b_Edges_L2_rg (a0 : GTask) (z1 : List (List Int)) (hl : z1.length < 9223372036854775807) : ∀ (k n : Nat) (v69 : List GEdge), n ≤ z1.length → z1.length < k + n → M_b_Edges_L2 a0 z1 k (n : Int) v69 = Rg (M_b_Edges_L2_B a0 z1) (M_b_Edges_L2_E a0 z1) (z1.drop n) n v69 := by
  intro k n v69
  refine rg_of (L := fun k i (p : ((List GEdge))) => match p with | v69 => M_b_Edges_L2 a0 z1 k i v69) hl (fun k n p y hy hn => ?_) (fun k p => ?_) k n v69
  · have h1 := lt_some hy
    have h2 := w64s hn
    first | (simp only [M_b_Edges_L2, M_b_Edges_L2_B, List.length_map, decide_lt h1, sel, ix_at hy, ixv, h2]; done) | (simp only [List.length_map] at h1 hy; simp only [M_b_Edges_L2, M_b_Edges_L2_B, List.length_map, decide_lt h1, sel, ix_at hy, ixv, h2]; done)
  · simp only [M_b_Edges_L2, M_b_Edges_L2_E, List.length_map, decide_ge, sel]
theorem M_b_Edges_L2_eq (a0 : GTask) (z1 : List (List Int)) (v69 : List GEdge) (hl : z1.length < 9223372036854775807) : M_b_Edges_L2 a0 z1 (((z1.map cL_cI).length : Int).toNat + 1) 0 v69 = Rg (M_b_Edges_L2_B a0 z1) (M_b_Edges_L2_E a0 z1) z1 0 v69 := by
  have h := M_b_Edges_L2_rg a0 z1 hl (z1.length + 1) 0 v69 (Nat.zero_le _) (by omega)
  rw [List.length_map, Int.toNat_natCast]
  exact h
def M_b_Distances_L1_B (a0 : GTask) (_ : List (List Int)) (_y34 : List Int) (v31 : Int) : ((List Int)) → (((List Int)) → Option (List Int)) → Option (List Int) := fun v32 rc => ixv _y34 (fun y34 =>
       ixn v32 ((v31).toNat) (fun _ =>
        grd (v31 < ((v32.length : Nat) : Int)) (ob1 (M_b_Holds a0.Goal y34) (fun z36 =>
         sel z36
          (ixn (v32.set ((v31).toNat) 1125899906842624) ((v31).toNat) (fun _ =>
            rc (((v32.set ((v31).toNat) 1125899906842624).set ((v31).toNat) 0))))
          (rc ((v32.set ((v31).toNat) 1125899906842624)))))))
def M_b_Distances_L1_E (_ : GTask) (_ : List (List Int)) : ((List Int)) → Option (List Int) := fun v32 => some v32
theorem M_b_Distances_L1_rg (a0 : GTask) (z1 : List (List Int)) (hl : z1.length < 9223372036854775807) : ∀ (k n : Nat) (v32 : List Int), n ≤ z1.length → z1.length < k + n → M_b_Distances_L1 a0 z1 k (n : Int) v32 = Rg (M_b_Distances_L1_B a0 z1) (M_b_Distances_L1_E a0 z1) (z1.drop n) n v32 := by
  intro k n v32
  refine rg_of (L := fun k i (p : ((List Int))) => match p with | v32 => M_b_Distances_L1 a0 z1 k i v32) hl (fun k n p y hy hn => ?_) (fun k p => ?_) k n v32
  · have h1 := lt_some hy
    have h2 := w64s hn
    first | (simp only [M_b_Distances_L1, M_b_Distances_L1_B, List.length_map, decide_lt h1, sel, ix_at hy, ixv, h2]; done) | (simp only [List.length_map] at h1 hy; simp only [M_b_Distances_L1, M_b_Distances_L1_B, List.length_map, decide_lt h1, sel, ix_at hy, ixv, h2]; done)
  · simp only [M_b_Distances_L1, M_b_Distances_L1_E, List.length_map, decide_ge, sel]
theorem M_b_Distances_L1_eq (a0 : GTask) (z1 : List (List Int)) (v32 : List Int) (hl : z1.length < 9223372036854775807) : M_b_Distances_L1 a0 z1 (((z1.map cL_cI).length : Int).toNat + 1) 0 v32 = Rg (M_b_Distances_L1_B a0 z1) (M_b_Distances_L1_E a0 z1) z1 0 v32 := by
  have h := M_b_Distances_L1_rg a0 z1 hl (z1.length + 1) 0 v32 (Nat.zero_le _) (by omega)
  rw [List.length_map, Int.toNat_natCast]
  exact h
def M_b_Distances_L2_B (a0 : GTask) (_ : List GEdge) (_y316 : GEdge) (_ : Int) : ((Bool) × (List Int)) → (((Bool) × (List Int)) → Option (Bool × (List Int))) → Option (Bool × (List Int)) := fun (v312, v314) rc => ixv _y316 (fun y316 =>
       ix a0.Ops y316.Op (fun y317 =>
        ob1 (some () : Option (Unit))
         (fun _ => ob1 (ixn v314 ((y316.To).toNat) (fun y324 =>
             sel (decide (y324 < 1125899906842624))
              (ixn v314 ((y316.To).toNat) (fun y325 =>
                ixn v314 ((y316.From).toNat) (fun y326 =>
                 grd (0 ≤ y316.To) (grd (y316.To < ((v314.length : Nat) : Int)) (grd (0 ≤ y316.From) (grd (y316.From < ((v314.length : Nat) : Int)) (some (decide ((IntKind.i64.wrap (y325 + y317.Cost)) < y326)))))))))
              (grd (0 ≤ y316.To) (grd (y316.To < ((v314.length : Nat) : Int)) (some false)))) : Option (Bool))
            (fun v322 => sel v322
               (ixn v314 ((y316.To).toNat) (fun y327 =>
                 ixn v314 ((y316.From).toNat) (fun _ =>
                  grd (0 ≤ y316.To) (grd (y316.To < ((v314.length : Nat) : Int)) (grd (0 ≤ y316.From) (grd (y316.From < ((v314.length : Nat) : Int)) (rc (true, (v314.set ((y316.From).toNat) (IntKind.i64.wrap (y327 + y317.Cost)))))))))))
               (rc (v312, v314))))))
def M_b_Distances_L2_E (_ : GTask) (_ : List GEdge) : ((Bool) × (List Int)) → Option (Bool × (List Int)) := fun (v312, v314) => some (v312, v314)
theorem M_b_Distances_L2_rg (a0 : GTask) (z38 : List GEdge) (hl : z38.length < 9223372036854775807) : ∀ (k n : Nat) (v312 : Bool) (v314 : List Int), n ≤ z38.length → z38.length < k + n → M_b_Distances_L2 a0 z38 k v312 (n : Int) v314 = Rg (M_b_Distances_L2_B a0 z38) (M_b_Distances_L2_E a0 z38) (z38.drop n) n (v312, v314) := by
  intro k n v312 v314
  refine rg_of (L := fun k i (p : ((Bool) × (List Int))) => match p with | (v312, v314) => M_b_Distances_L2 a0 z38 k v312 i v314) hl (fun k n p y hy hn => ?_) (fun k p => ?_) k n (v312, v314)
  · have h1 := lt_some hy
    have h2 := w64s hn
    first | (simp only [M_b_Distances_L2, M_b_Distances_L2_B, List.length_map, decide_lt h1, sel, ix_at hy, ixv, h2]; done) | (simp only [List.length_map] at h1 hy; simp only [M_b_Distances_L2, M_b_Distances_L2_B, List.length_map, decide_lt h1, sel, ix_at hy, ixv, h2]; done)
  · simp only [M_b_Distances_L2, M_b_Distances_L2_E, List.length_map, decide_ge, sel]
theorem M_b_Distances_L2_eq (a0 : GTask) (z38 : List GEdge) (v312 : Bool) (v314 : List Int) (hl : z38.length < 9223372036854775807) : M_b_Distances_L2 a0 z38 (((z38.map cGEdge).length : Int).toNat + 1) v312 0 v314 = Rg (M_b_Distances_L2_B a0 z38) (M_b_Distances_L2_E a0 z38) z38 0 (v312, v314) := by
  have h := M_b_Distances_L2_rg a0 z38 hl (z38.length + 1) 0 v312 v314 (Nat.zero_le _) (by omega)
  rw [List.length_map, Int.toNat_natCast]
  exact h
end Go.Proofs.YtcpajbglcgbolaaGreat.Am
/- Plain: stratagembase.Rank, Edges: the numbers of states, and the ways from state to state. -/
namespace Go.Proofs.YtcpajbglcgbolaaGreat.Am
open Go.RowKit
def rankF : List Int → List Int → Int → Int
  | k :: r, x :: t, v => rankF r t (v * k + x)
  | _, _, v => v
theorem flat_at (m : Nat) : ∀ (out : List (List Int)) (i x : Nat) (s : List Int), out[i]? = some s → x < m → (out.flatMap fun s => extF s m 0)[i * m + x]? = some (s ++ [(x : Int)])
  | [], i, x, s, h, _ => by simp at h
  | u :: out, i, x, s, h, hx => by
    have hext : ∀ (u : List Int) (m : Nat) (j : Int) (x : Nat), x < m → (extF u m j)[x]? = some (u ++ [j + (x : Int)]) := by
      intro u m
      induction m with
      | zero => intro j x hx; omega
      | succ m ih =>
        intro j x hx
        rw [extF]
        cases x with
        | zero => simp
        | succ x => rw [List.getElem?_cons_succ, ih (j + 1) x (by omega)]; congr 3; omega
    rw [List.flatMap_cons]
    cases i with
    | zero =>
      simp only [List.getElem?_cons_zero, Option.some.injEq] at h
      subst h
      rw [Nat.zero_mul, Nat.zero_add, List.getElem?_append_left (by rw [extF_len]; exact hx), hext u m 0 x hx]
      congr 3; omega
    | succ i =>
      rw [List.getElem?_cons_succ] at h
      rw [List.getElem?_append_right (by rw [extF_len, Nat.add_mul]; omega), extF_len, show (i + 1) * m + x - m = i * m + x from by rw [Nat.add_mul]; omega]
      exact flat_at m out i x s h hx
theorem rank_at : ∀ (r : List Int) (out : List (List Int)) (i : Nat) (s u : List Int), out[i]? = some s → stateF r u = true → ∃ k : Nat, rankF r u i = (k : Int) ∧ (statesG r out)[k]? = some (s ++ u)
  | [], out, i, s, u, h, hu => by
    cases u with
    | nil => exact ⟨i, rfl, by rw [statesG, List.append_nil]; exact h⟩
    | cons x u => simp [stateF] at hu
  | k :: r, out, i, s, u, h, hu => by
    cases u with
    | nil => simp [stateF] at hu
    | cons x u =>
      rw [stateF, Bool.and_eq_true, decide_eq_true_iff] at hu
      obtain ⟨m, rfl⟩ : ∃ m : Nat, k = m := ⟨k.toNat, by omega⟩
      obtain ⟨y, rfl⟩ : ∃ y : Nat, x = y := ⟨x.toNat, by omega⟩
      have h1 := flat_at m out i y s h (by omega)
      obtain ⟨q, e1, e2⟩ := rank_at r _ (i * m + y) (s ++ [(y : Int)]) u h1 hu.2
      refine ⟨q, ?_, by rw [statesG, Int.toNat_natCast, e2, List.append_assoc]; rfl⟩
      rw [rankF, ← e1, Int.natCast_add, Int.natCast_mul]
/-- the number of a state is its place -/
theorem rank_all {t : GTask} {s : List Int} (hs : stateF t.Vars s = true) : ∃ k : Nat, rankF t.Vars s 0 = (k : Int) ∧ (allF t)[k]? = some s := rank_at t.Vars [[]] 0 [] s rfl hs
theorem rank_loop (vars s : List Int) (B : Int) (hB : B ≤ 1000000) : ∀ (u r : List Int) (n : Nat) (v : Int), s.drop n = u → vars.drop n = r → u.length = r.length → 0 ≤ v → stateF r u = true → (∀ k ∈ r, 1 ≤ k ∧ k ≤ 64) → rankF r u v ≤ B →
    Rg (M_b_Rank_L1_B vars s) (M_b_Rank_L1_E vars s) u n v = some (rankF r u v)
  | [], r, n, v, hs, hr, hl, hv, hst, _, _ => by
    cases r with
    | nil => rfl
    | cons k r => simp at hl
  | x :: u, r, n, v, hs, hr, hl, hv, hst, hk, hb => by
    cases r with
    | nil => simp at hl
    | cons k r =>
      obtain ⟨hx, hs2, -⟩ := drop_cons hs
      obtain ⟨hk1, hr2, -⟩ := drop_cons hr
      rw [stateF, Bool.and_eq_true, decide_eq_true_iff] at hst
      obtain ⟨k1, k2⟩ := hk k (List.mem_cons_self ..)
      rw [rankF] at hb ⊢
      have hmono : ∀ (r u : List Int) (v : Int), stateF r u = true → 0 ≤ v → (∀ k ∈ r, 1 ≤ k ∧ k ≤ 64) → v ≤ rankF r u v := by
        intro r
        induction r with
        | nil => intro u v _ _ _; cases u <;> exact Int.le_refl _
        | cons k r ih =>
          intro u v hu hv hk
          cases u with
          | nil => simp [stateF] at hu
          | cons x u =>
            rw [stateF, Bool.and_eq_true, decide_eq_true_iff] at hu
            have hk1 := hk k (List.mem_cons_self ..)
            have hm : v * 1 ≤ v * k := Int.mul_le_mul_of_nonneg_left hk1.1 hv
            have h2 := ih u (v * k + x) hu.2 (by omega) (fun y hy => hk y (List.mem_cons_of_mem _ hy))
            rw [rankF]; omega
      have hvk : 0 ≤ v * k := Int.mul_nonneg hv (by omega)
      have hle := hmono r u (v * k + x) hst.2 (by omega) (fun y hy => hk y (List.mem_cons_of_mem _ hy))
      have w1 : IntKind.i64.wrap (v * k) = v * k := wrap_eq (by omega) (by omega)
      have w2 : IntKind.i64.wrap (v * k + x) = v * k + x := wrap_eq (by omega) (by omega)
      rw [Rg, M_b_Rank_L1_B, ix_at hk1, ixv, w1, w2]
      exact rank_loop vars s B hB u r (n + 1) (v * k + x) hs2 hr2 (by simpa using hl) (by omega) hst.2 (fun y hy => hk y (List.mem_cons_of_mem _ hy)) hb
theorem rank_eq {t : GTask} (hsm : smallF t = true) {s : List Int} (hs : stateF t.Vars s = true) : ∃ k : Nat, M_b_Rank t.Vars s = some (k : Int) ∧ (allF t)[k]? = some s := by
  obtain ⟨k, e1, e2⟩ := rank_all hs
  have hlen := (stateF_st hs).len
  have hv := (small_good hsm).2.1
  have hk : k < (allF t).length := (List.getElem?_eq_some_iff.1 e2).1
  have hal := allF_len t hsm
  refine ⟨k, ?_, e2⟩
  rw [M_b_Rank, M_b_Rank_L1_eq t.Vars s 0 (by omega)]
  have := rank_loop t.Vars s 1000000 (by decide) s t.Vars 0 0 rfl rfl hlen (by decide) hs (good_dom (small_good hsm).1).dom (by rw [e1]; omega)
  rw [e1] at this
  exact this
/-- a state's successor is a state -/
theorem st_state : ∀ {v s : List Int}, s.length = v.length → (∀ i : Nat, i < v.length → 0 ≤ s.getD i 0 ∧ s.getD i 0 < v.getD i 0) → stateF v s = true
  | [], [], _, _ => rfl
  | [], _ :: _, h, _ => by simp at h
  | _ :: _, [], h, _ => by simp at h
  | k :: r, x :: s, h, hr => by
    have h0 := hr 0 (by simp)
    simp only [List.getD_cons_zero] at h0
    rw [stateF, Bool.and_eq_true, decide_eq_true_iff]
    refine ⟨h0, st_state (by simpa using h) (fun i hi => ?_)⟩
    have := hr (i + 1) (by simpa using hi)
    simpa using this
theorem apply_rng (vars : List Int) (s : List Int) : ∀ (r : List GEffect) (v : List Int), v.length = vars.length → (∀ i : Nat, i < vars.length → 0 ≤ v.getD i 0 ∧ v.getD i 0 < vars.getD i 0) → (∀ e ∈ r, 0 ≤ e.Var ∧ 0 ≤ e.Val ∧ e.Val < vars.getD e.Var.toNat 0) → ∀ i : Nat, i < vars.length → 0 ≤ (applyG s r v).getD i 0 ∧ (applyG s r v).getD i 0 < vars.getD i 0
  | [], v, _, hv, _, i, hi => hv i hi
  | e :: r, v, hl, hv, he, i, hi => by
    have he2 : ∀ e ∈ r, 0 ≤ e.Var ∧ 0 ≤ e.Val ∧ e.Val < vars.getD e.Var.toNat 0 := fun u hu => he u (List.mem_cons_of_mem _ hu)
    rw [applyG]
    split
    · obtain ⟨e0, e1, e2⟩ := he e (List.mem_cons_self ..)
      refine apply_rng vars s r _ (by rw [List.length_set]; exact hl) (fun j hj => ?_) he2 i hi
      by_cases hej : e.Var.toNat = j
      · subst hej
        rw [List.getD_eq_getElem?_getD, List.getElem?_set_self (by omega), Option.getD_some]
        exact ⟨e1, e2⟩
      · rw [List.getD_eq_getElem?_getD, List.getElem?_set_ne hej, ← List.getD_eq_getElem?_getD]
        exact hv j hj
    · exact apply_rng vars s r v hl hv he2 i hi
theorem next_state {t : GTask} (hgood : goodF t = true) {s : List Int} (hs : stateF t.Vars s = true) {o : GOp} (ho : o ∈ t.Ops) : stateF t.Vars (nextF s o) = true := by
  have st := stateF_st hs
  refine st_state (by unfold nextF; rw [applyG_len]; exact st.len) (fun i hi => ?_)
  exact apply_rng t.Vars s o.Effs s st.len st.rng (fun e he => by obtain ⟨h1, -, h3, h4⟩ := good_eff hgood ho he; exact ⟨h1, h3, h4⟩) i hi
/-- a way from state to state -/
structure EdgP (t : GTask) (e : GEdge) : Prop where
  ex : ∃ (a b q : Nat) (s : List Int) (o : GOp), e.From = (a : Int) ∧ e.To = (b : Int) ∧ e.Op = (q : Int) ∧ (allF t)[a]? = some s ∧ (allF t)[b]? = some (nextF s o) ∧ t.Ops[q]? = some o ∧ holdsF s o.Pre = true
theorem edges1 {t : GTask} (hsm : smallF t = true) (i : Nat) (s : List Int) (hi : (allF t)[i]? = some s) : ∀ (l : List GOp) (m j : Nat) (v : List GEdge), t.Ops.drop j = l → l.length = m → v.length + m ≤ 100000 → (∀ e ∈ v, EdgP t e) →
    ∃ v', Rn (M_b_Edges_L1_B t i s) (M_b_Edges_L1_E t i s) m j v = some v' ∧ v'.length ≤ v.length + m ∧ ∀ e ∈ v', EdgP t e
  | [], m, j, v, _, hm, _, hv => by subst hm; exact ⟨v, rfl, Nat.le_refl _, hv⟩
  | o :: os, m, j, v, hdr, hm, hlen, hv => by
    have hgood := (small_good hsm).1
    obtain ⟨hj, hd', hlt⟩ := drop_cons hdr
    obtain ⟨m, rfl⟩ : ∃ k, m = k + 1 := ⟨os.length, hm.symm⟩
    have hst := (allF_mem t s).1 (List.mem_of_getElem? hi)
    have hm' : os.length = m := by simpa using hm
    rw [Rn, M_b_Edges_L1_B, apply_eq t hgood s (stateF_st hst) j o hj]
    by_cases hp : holdsF s o.Pre = true
    · obtain ⟨k, e1, e2⟩ := rank_eq hsm (next_state hgood hst (List.mem_of_getElem? hj))
      rw [if_pos hp, ob2_some, sel_tt, e1, ob1_some, grd_t (by omega)]
      obtain ⟨v', h1, h2, h3⟩ := edges1 hsm i s hi os m (j + 1) (v ++ [{ From := (i : Int), Op := (j : Int), To := (k : Int) }]) hd' hm' (by simp; omega) (fun e he => by
        rcases List.mem_append.1 he with he | he
        · exact hv e he
        · rw [List.mem_singleton.1 he]; exact ⟨⟨i, k, j, s, o, rfl, rfl, rfl, hi, e2, hj, hp⟩⟩)
      exact ⟨v', h1, by simp at h2; omega, h3⟩
    · rw [if_neg hp, ob2_some, sel_ff]
      obtain ⟨v', h1, h2, h3⟩ := edges1 hsm i s hi os m (j + 1) v hd' hm' (by omega) hv
      exact ⟨v', h1, by omega, h3⟩
theorem edges2 {t : GTask} (hsm : smallF t = true) : ∀ (r : List (List Int)) (i : Nat) (v : List GEdge), (allF t).drop i = r → v.length + r.length * 20 ≤ 100000 → (∀ e ∈ v, EdgP t e) →
    ∃ v', Rg (M_b_Edges_L2_B t (allF t)) (M_b_Edges_L2_E t (allF t)) r i v = some v' ∧ v'.length ≤ 100000 ∧ ∀ e ∈ v', EdgP t e
  | [], i, v, _, hl, hv => ⟨v, by rw [Rg, M_b_Edges_L2_E, grd_t (by simp at hl; omega)], by simpa using hl, hv⟩
  | s :: r, i, v, hdr, hl, hv => by
    obtain ⟨hi, hd', hlt⟩ := drop_cons hdr
    have hops := (small_good hsm).2.2
    rw [List.length_cons] at hl
    rw [Rg, M_b_Edges_L2_B, ixv, M_b_Edges_L1_eq t i s v (m := t.Ops.length) (by rw [List.length_map]) (by omega)]
    obtain ⟨v1, h1, h2, h3⟩ := edges1 hsm i s hi t.Ops t.Ops.length 0 v rfl rfl (by omega) hv
    have h1' : Rn (M_b_Edges_L1_B t i s) (M_b_Edges_L1_E t i s) t.Ops.length 0 v = some v1 := h1
    rw [h1', ob1_some]
    exact edges2 hsm r (i + 1) v1 hd' (by omega) h3
theorem edges_eq {t : GTask} (hsm : smallF t = true) : ∃ es, M_b_Edges t = some es ∧ es.length ≤ 100000 ∧ ∀ e ∈ es, EdgP t e := by
  have hal := allF_len t hsm
  obtain ⟨es, h1, h2, h3⟩ := edges2 hsm (allF t) 0 [] rfl (by simp; omega) (fun e he => by cases he)
  refine ⟨es, ?_, h2, h3⟩
  rw [M_b_Edges, states_eq t hsm, ob1_some, M_b_Edges_L2_eq t (allF t) [] (by omega)]
  exact h1
end Go.Proofs.YtcpajbglcgbolaaGreat.Am
/- Plain: stratagembase.Distances keeps what holds of the goal states and of each way back. -/
namespace Go.Proofs.YtcpajbglcgbolaaGreat.Am
open Go.RowKit
abbrev infD : Int := 1125899906842624
theorem take_set (x : Int) : ∀ (l : List Int) (n : Nat), n < l.length → (l.set n x).take (n + 1) = l.take n ++ [x]
  | [], n, h => by simp at h
  | y :: l, 0, _ => by simp
  | y :: l, n + 1, h => by
    rw [List.set_cons_succ, List.take_succ_cons, take_set x l n (by simpa using h), List.take_succ_cons, List.cons_append]
theorem sum_set (x : Int) : ∀ (l : List Int) (n : Nat) (y : Int), l[n]? = some y → (l.set n x).sum = l.sum - y + x
  | [], n, y, h => by simp at h
  | z :: l, 0, y, h => by
    simp only [List.getElem?_cons_zero, Option.some.injEq] at h
    subst h
    rw [List.set_cons_zero, List.sum_cons, List.sum_cons]; omega
  | z :: l, n + 1, y, h => by
    rw [List.getElem?_cons_succ] at h
    rw [List.set_cons_succ, List.sum_cons, List.sum_cons, sum_set x l n y h]; omega
theorem sum_pos : ∀ (l : List Int), (∀ x ∈ l, 0 ≤ x) → 0 ≤ l.sum
  | [], _ => by simp
  | x :: l, h => by
    have h0 := h x (List.mem_cons_self ..)
    have := sum_pos l (fun y hy => h y (List.mem_cons_of_mem _ hy))
    rw [List.sum_cons]; omega
theorem sum_le (B : Int) : ∀ (l : List Int), (∀ x ∈ l, x ≤ B) → l.sum ≤ B * l.length
  | [], _ => by simp
  | x :: l, h => by
    have h0 := h x (List.mem_cons_self ..)
    have := sum_le B l (fun y hy => h y (List.mem_cons_of_mem _ hy))
    rw [List.sum_cons, List.length_cons, Int.natCast_add, Int.mul_add]; omega
/-- what is kept of the distances -/
structure DInv (t : GTask) (Q : List Int → Int → Prop) (d : List Int) : Prop where
  len : d.length = (allF t).length
  ok : ∀ (i : Nat) (s : List Int) (x : Int), (allF t)[i]? = some s → d[i]? = some x → 0 ≤ x ∧ x ≤ infD ∧ (x ≠ infD → Q s x)
theorem DInv.all {t : GTask} {Q : List Int → Int → Prop} {d : List Int} (h : DInv t Q d) : ∀ x ∈ d, 0 ≤ x ∧ x ≤ infD := fun x hx => by
  obtain ⟨i, hi⟩ := List.getElem?_of_mem hx
  have hlt := (List.getElem?_eq_some_iff.1 hi).1
  have hs : (allF t)[i]? = some ((allF t)[i]'(by rw [← h.len]; exact hlt)) := List.getElem?_eq_getElem _
  obtain ⟨h1, h2, -⟩ := h.ok i _ x hs hi
  exact ⟨h1, h2⟩
structure DQ (t : GTask) (Q : List Int → Int → Prop) : Prop where
  goal : ∀ s ∈ allF t, holdsF s t.Goal = true → Q s 0
  step : ∀ s ∈ allF t, ∀ o ∈ t.Ops, holdsF s o.Pre = true → ∀ x : Int, 0 ≤ x → Q (nextF s o) x → Q s (x + o.Cost)
theorem dis1 {t : GTask} (hgood : goodF t = true) : ∀ (r : List (List Int)) (n : Nat) (v : List Int), (allF t).drop n = r → v.length = (allF t).length →
    Rg (M_b_Distances_L1_B t (allF t)) (M_b_Distances_L1_E t (allF t)) r n v = some (v.take n ++ r.map fun s => if holdsF s t.Goal = true then 0 else infD)
  | [], n, v, hd, hl => by
    have hn := congrArg List.length hd
    simp only [List.length_drop, List.length_nil] at hn
    rw [Rg, M_b_Distances_L1_E, List.map_nil, List.append_nil, List.take_of_length_le (by omega)]
  | s :: r, n, v, hd, hl => by
    obtain ⟨hs, hd', hlt⟩ := drop_cons hd
    have hv : v[n]? = some (v[n]'(by omega)) := List.getElem?_eq_getElem _
    have hv2 : (v.set n 1125899906842624)[n]? = some 1125899906842624 := List.getElem?_set_self (by omega)
    rw [Rg, M_b_Distances_L1_B, ixv, Int.toNat_natCast, ixn_at hv, grd_t (by omega), holds_eq t.Goal s (prop_sh (good_dom hgood).len (good_goal hgood)), ob1_some, List.map_cons]
    have hcast : ((n : Int) + 1) = ((n + 1 : Nat) : Int) := rfl
    by_cases hh : holdsF s t.Goal = true
    · rw [hh, sel_tt, ixn_at hv2, List.set_set, hcast, dis1 hgood r (n + 1) _ hd' (by rw [List.length_set]; exact hl), take_set 0 v n (by omega), if_pos rfl, List.append_assoc]; rfl
    · rw [Bool.eq_false_iff.2 hh, sel_ff, hcast, dis1 hgood r (n + 1) _ hd' (by rw [List.length_set]; exact hl), take_set _ v n (by omega), if_neg (by decide), List.append_assoc]; rfl
end Go.Proofs.YtcpajbglcgbolaaGreat.Am
