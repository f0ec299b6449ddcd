/- Texts of the proof, part 5 of 6. -/
import Derived.Test.YtohjegemooakpaaGreatB4
import Derived.Test.YtohjegemooakpaaGreatB3
import Derived.Test.YtohjegemooakpaaGreatB2
/- Plain laws: regress.join, regress.silent. -/
namespace Go.Proofs.YtohjegemooakpaaGreat.Am
open Go.RowKit
abbrev PropL (vars : List Int) (l : List (List Fact)) : Prop := ∀ x ∈ l, propF vars (-1) x = true
def addN {α : Type} [DecidableEq α] (out : List α) (z : α) : List α := if z ∈ out then out else out ++ [z]
theorem addN_mem {α : Type} [DecidableEq α] (out : List α) (z x : α) : x ∈ addN out z ↔ x ∈ out ∨ x = z := by
  unfold addN; split
  · constructor
    · exact Or.inl
    · rintro (h | rfl) <;> assumption
  · simp
theorem addN_nodup {α : Type} [DecidableEq α] {out : List α} (h : out.Nodup) (z : α) : (addN out z).Nodup := by
  unfold addN; split
  · exact h
  · rename_i hz
    refine List.nodup_append.2 ⟨h, by simp, fun a ha b hb => ?_⟩
    rw [List.mem_singleton] at hb; subst hb
    rintro rfl; exact hz ha
theorem addN_len {α : Type} [DecidableEq α] (out : List α) (z : α) : out.length ≤ (addN out z).length := by
  unfold addN; split
  · exact Nat.le_refl _
  · simp
theorem propF_vF' {vars : List Int} {l : List Fact} (h : propF vars (-1) l = true) : vF (-1) l = true := propF_vF vars l (-1) h
theorem joinO_prop {vars : List Int} {a b p : List Fact} (ha : propF vars (-1) a = true) (hb : propF vars (-1) b = true) (h : joinO a b = some p) : propF vars (-1) p = true := by
  obtain ⟨hv, hm⟩ := joinO_some h
  refine (propF_iff vars p (-1)).2 ⟨hv, fun x hx => ?_⟩
  rcases (hm x).1 hx with h | h
  · exact ((propF_iff vars a (-1)).1 ha).2 x h
  · exact ((propF_iff vars b (-1)).1 hb).2 x h
def joinX (x : List Fact) : List (List Fact) → List (List Fact) → List (List Fact)
  | [], out => out
  | y :: r, out => joinX x r (match joinO x y with | some z => addN out z | none => out)
def joinXX : List (List Fact) → List (List Fact) → List (List Fact) → List (List Fact)
  | [], _, out => out
  | x :: r, b, out => joinXX r b (joinX x b out)
def joinLL (a b : List (List Fact)) : List (List Fact) := joinXX a b []
theorem joinX_len (x : List Fact) : ∀ (b out : List (List Fact)), out.length ≤ (joinX x b out).length
  | [], _ => Nat.le_refl _
  | y :: r, out => by
    rw [joinX]
    refine Nat.le_trans ?_ (joinX_len x r _)
    split
    · exact addN_len _ _
    · exact Nat.le_refl _
theorem joinXX_len : ∀ (a b out : List (List Fact)), out.length ≤ (joinXX a b out).length
  | [], _, _ => Nat.le_refl _
  | x :: r, b, out => Nat.le_trans (joinX_len x b out) (joinXX_len r b _)
theorem joinX_nodup (x : List Fact) : ∀ (b out : List (List Fact)), out.Nodup → (joinX x b out).Nodup
  | [], _, h => h
  | y :: r, out, h => by
    rw [joinX]
    refine joinX_nodup x r _ ?_
    split
    · exact addN_nodup h _
    · exact h
theorem joinXX_nodup : ∀ (a b out : List (List Fact)), out.Nodup → (joinXX a b out).Nodup
  | [], _, _, h => h
  | x :: r, b, out, h => joinXX_nodup r b _ (joinX_nodup x b out h)
theorem joinLL_nodup (a b : List (List Fact)) : (joinLL a b).Nodup := joinXX_nodup a b [] List.nodup_nil
theorem joinX_mem (x : List Fact) (z : List Fact) : ∀ (b out : List (List Fact)), z ∈ joinX x b out ↔ z ∈ out ∨ ∃ y ∈ b, joinO x y = some z
  | [], out => by simp [joinX]
  | y :: r, out => by
    rw [joinX, joinX_mem x z r]
    cases h : joinO x y with
    | none => simp [h]
    | some w =>
      simp only [addN_mem, List.mem_cons]
      constructor
      · rintro ((h' | rfl) | ⟨u, hu, h'⟩)
        · exact Or.inl h'
        · exact Or.inr ⟨y, Or.inl rfl, h⟩
        · exact Or.inr ⟨u, Or.inr hu, h'⟩
      · rintro (h' | ⟨u, rfl | hu, h'⟩)
        · exact Or.inl (Or.inl h')
        · rw [h] at h'; cases h'; exact Or.inl (Or.inr rfl)
        · exact Or.inr ⟨u, hu, h'⟩
theorem joinXX_mem (z : List Fact) : ∀ (a b out : List (List Fact)), z ∈ joinXX a b out ↔ z ∈ out ∨ ∃ x ∈ a, ∃ y ∈ b, joinO x y = some z
  | [], b, out => by simp [joinXX]
  | x :: r, b, out => by
    rw [joinXX, joinXX_mem z r, joinX_mem, or_assoc]
    simp only [List.mem_cons, exists_eq_or_imp]
theorem joinLL_mem (z : List Fact) (a b : List (List Fact)) : z ∈ joinLL a b ↔ ∃ x ∈ a, ∃ y ∈ b, joinO x y = some z := by
  rw [joinLL, joinXX_mem]; simp
theorem joinLL_prop {vars : List Int} {a b : List (List Fact)} (ha : PropL vars a) (hb : PropL vars b) : PropL vars (joinLL a b) := fun z hz => by
  obtain ⟨x, hx, y, hy, h⟩ := (joinLL_mem z a b).1 hz
  exact joinO_prop (ha x hx) (hb y hy) h
structure JInv (vars : List Int) (s o : List (List Fact)) : Prop where
  asc : SortedL s
  len : s.length = o.length
  mem : ∀ z, z ∈ s ↔ z ∈ o
  prop : PropL vars o
theorem prop_len {vars : List Int} (hv : vars.length ≤ 64) {x : List Fact} (h : propF vars (-1) x = true) : x.length ≤ 64 := Nat.le_trans (propF_len' h) hv
theorem prop_sh {vars : List Int} (hv : vars.length ≤ 64) {x : List Fact} (h : propF vars (-1) x = true) : Sh x := Nat.le_trans (prop_len hv h) (by decide)
theorem join1 (vars : List Int) (hv : vars.length ≤ 64) (g : Nat) (hg : 21 ≤ g) (b : List (List Fact)) (x : List Fact) (hx : propF vars (-1) x = true) :
    ∀ (r : List (List Fact)) (i : Int) (s o : List (List Fact)), PropL vars r → JInv vars s o → o.length ≤ 1024 →
    ∃ res, Rg (M_g_join_L1_B b g x) (M_g_join_L1_E b g x) r i (s, o) = some res ∧
      ((joinX x r o).length ≤ 1024 → ∃ s', res = .inl (s', joinX x r o) ∧ JInv vars s' (joinX x r o)) ∧ (1024 < (joinX x r o).length → res = .inr ([], Er.no 5))
  | [], i, s, o, hr, hi, ho => ⟨_, rfl, fun _ => ⟨s, rfl, hi⟩, fun h => absurd h (by rw [joinX]; omega)⟩
  | y :: r, i, s, o, hr, hi, ho => by
    have hy := hr y (List.mem_cons_self ..)
    have hr' : PropL vars r := fun u hu => hr u (List.mem_cons_of_mem _ hu)
    have l1 := prop_len hv hx
    have l2 := prop_len hv hy
    rw [Rg, M_g_join_L1_B, ixv, join_eq x y (by omega) (propF_vF' hx) (propF_vF' hy)]
    cases h : joinO x y with
    | none =>
      rw [show joinX x (y :: r) o = joinX x r o from by rw [joinX, h], joinR, h, ob2_some, Bool.not_false, sel_tt]
      exact join1 vars hv g hg b x hx r _ s o hr' hi ho
    | some z =>
      have hz := joinO_prop hx hy h
      rw [show joinX x (y :: r) o = joinX x r (addN o z) from by rw [joinX, h], joinR, h, ob2_some, Bool.not_true, sel_ff, grd_t (by rw [hi.len]; omega)]
      obtain ⟨p, f, he, hp, hf, hput⟩ := bsearch_eq s z g hg (by rw [hi.len]; omega) (fun u hu => prop_sh hv (hi.prop u ((hi.mem u).1 hu))) hi.asc
      rw [he, ob2_some]
      cases f with
      | true =>
        rw [sel_tt, addN, if_pos ((hi.mem z).1 (hf.1 rfl))]
        exact join1 vars hv g hg b x hx r _ s o hr' hi ho
      | false =>
        have hno : z ∉ o := fun hz => by have := hf.2 ((hi.mem z).2 hz); cases this
        rw [sel_ff, addN, if_neg hno]
        by_cases hm : o.length = 1024
        · rw [show (((o.length : Nat) : Int) == 1024) = true from by rw [hm]; rfl, sel_tt]
          have := joinX_len x r (o ++ [z])
          rw [List.length_append, List.length_singleton, hm] at this
          exact ⟨_, rfl, fun h => absurd h (by omega), fun _ => rfl⟩
        · rw [show (((o.length : Nat) : Int) == 1024) = false from by simp; omega, sel_ff, M_insertL, grd_t (by omega), grd_t (by omega), grd_t (by rw [hi.len]; omega), ob1_some, grd_t (by omega), Int.toNat_natCast]
          refine join1 vars hv g hg b x hx r _ _ (o ++ [z]) hr' ⟨hput rfl, ?_, fun u => ?_, fun u hu => ?_⟩ (by rw [List.length_append, List.length_singleton]; omega)
          · have := hi.len
            simp only [List.length_append, List.length_cons, List.length_take, List.length_drop, List.length_nil]; omega
          · rw [List.mem_append, List.mem_cons, List.mem_append, List.mem_singleton, ← hi.mem u]
            conv => rhs; rw [← List.take_append_drop p s, List.mem_append]
            constructor
            · rintro (h | h | h)
              · exact Or.inl (Or.inl h)
              · exact Or.inr h
              · exact Or.inl (Or.inr h)
            · rintro ((h | h) | h)
              · exact Or.inl h
              · exact Or.inr (Or.inr h)
              · exact Or.inr (Or.inl h)
          · rcases List.mem_append.1 hu with h | h
            · exact hi.prop u h
            · rw [List.mem_singleton.1 h]; exact hz
def capR (l : List (List Fact)) : List (List Fact) × Er := if l.length ≤ 1024 then (l, Er.nil) else ([], Er.no 5)
theorem join2 (vars : List Int) (hv : vars.length ≤ 64) (g : Nat) (hg : 21 ≤ g) (a b : List (List Fact)) (hb : PropL vars b) (hbl : Sh b) :
    ∀ (r : List (List Fact)) (i : Int) (s o : List (List Fact)), PropL vars r → JInv vars s o → o.length ≤ 1024 →
    Rg (M_g_join_L2_B a b g) (M_g_join_L2_E a b g) r i (s, o) = some (capR (joinXX r b o))
  | [], i, s, o, hr, hi, ho => by rw [Rg, M_g_join_L2_E, joinXX, capR, if_pos ho]; exact grd_t (by omega)
  | x :: r, i, s, o, hr, hi, ho => by
    have hx := hr x (List.mem_cons_self ..)
    have hr' : PropL vars r := fun u hu => hr u (List.mem_cons_of_mem _ hu)
    rw [Rg, M_g_join_L2_B, ixv, M_g_join_L1_eq b g x s o hbl.lt, joinXX]
    obtain ⟨res, he, h1, h2⟩ := join1 vars hv g hg b x hx b 0 s o hb hi ho
    rw [he, ob1_some]
    by_cases h : (joinX x b o).length ≤ 1024
    · obtain ⟨s', rfl, hi'⟩ := h1 h
      rw [osum_inl]
      exact join2 vars hv g hg a b hb hbl r _ s' _ hr' hi' h
    · rw [h2 (by omega), osum_inr, capR, if_neg (by have := joinXX_len r b (joinX x b o); omega)]
theorem rjoin_eq (vars : List Int) (hv : vars.length ≤ 64) (g : Nat) (hg : 21 ≤ g) (a b : List (List Fact)) (ha : PropL vars a) (hb : PropL vars b) (hal : Sh a) (hbl : Sh b) :
    M_g_join g a b = some (capR (joinLL a b)) := by
  rw [M_g_join, M_g_join_L2_eq a b g [] [] hal.lt]
  exact join2 vars hv g hg a b hb hbl a 0 [] [] ha ⟨List.Pairwise.nil, rfl, fun _ => Iff.rfl, fun _ h => nomatch h⟩ (by decide)
-- silent
def silOne (f : Fact) : Nat → Int → List (List Fact)
  | 0, _ => []
  | m + 1, i => (if i ≠ f.2 then [[(f.1, i)]] else []) ++ silOne f m (i + 1)
def silF (vars : List Int) (w : List Fact) : List (List Fact) := w.flatMap fun f => silOne f (vars.getD f.1.toNat 0).toNat 0
theorem silOne_len (f : Fact) : ∀ (m : Nat) (i : Int), (silOne f m i).length ≤ m
  | 0, _ => Nat.le_refl _
  | m + 1, i => by
    rw [silOne, List.length_append]
    have := silOne_len f m (i + 1)
    split <;> simp <;> omega
theorem silOne_mem (f : Fact) (z : List Fact) : ∀ (m : Nat) (i : Int), z ∈ silOne f m i ↔ ∃ y : Int, i ≤ y ∧ y < i + m ∧ y ≠ f.2 ∧ z = [(f.1, y)]
  | 0, i => by rw [silOne]; constructor; exact (nofun); rintro ⟨y, h1, h2, -⟩; omega
  | m + 1, i => by
    rw [silOne, List.mem_append, silOne_mem f z m]
    constructor
    · rintro (h | ⟨y, h1, h2, h3⟩)
      · split at h
        · exact ⟨i, Int.le_refl _, by omega, ‹_›, List.mem_singleton.1 h⟩
        · cases h
      · exact ⟨y, by omega, by omega, h3⟩
    · rintro ⟨y, h1, h2, h3, h4⟩
      rcases Int.lt_or_eq_of_le h1 with h | rfl
      · exact Or.inr ⟨y, by omega, by omega, h3, h4⟩
      · left; rw [if_pos h3, h4]; exact List.mem_singleton.2 rfl
theorem silF_mem {vars : List Int} {w : List Fact} {z : List Fact} : z ∈ silF vars w ↔ ∃ f ∈ w, ∃ y : Int, 0 ≤ y ∧ y < (vars.getD f.1.toNat 0).toNat ∧ y ≠ f.2 ∧ z = [(f.1, y)] := by
  rw [silF, List.mem_flatMap]
  constructor
  · rintro ⟨f, hf, h⟩
    obtain ⟨y, h1, h2, h3⟩ := (silOne_mem f z _ _).1 h
    exact ⟨f, hf, y, h1, by omega, h3⟩
  · rintro ⟨f, hf, y, h1, h2, h3⟩
    exact ⟨f, hf, (silOne_mem f z _ _).2 ⟨y, h1, by omega, h3⟩⟩
theorem silF_prop {vars : List Int} {w : List Fact} (hw : propF vars (-1) w = true) : PropL vars (silF vars w) := fun z hz => by
  obtain ⟨f, hf, y, h1, h2, -, rfl⟩ := silF_mem.1 hz
  obtain ⟨hv, hr⟩ := (propF_iff vars w (-1)).1 hw
  have hn := ((vF_iff' w).1 hv).1 f hf
  have := hr f hf
  refine (propF_iff vars _ (-1)).2 ⟨(vF_iff' _).2 ⟨fun x hx => ?_, List.pairwise_singleton ..⟩, fun x hx => ?_⟩
  · rw [List.mem_singleton.1 hx]; exact ⟨hn.1, h1⟩
  · rw [List.mem_singleton.1 hx]; exact ⟨this.1, by show y < vars.getD f.1.toNat 0; omega⟩
theorem silent1 (f : Fact) (d : Int) : ∀ (m n : Nat) (v : List (List Fact)), (v.length + m) ≤ 1000000 → Rn (M_g_silent_L1_B f d) (M_g_silent_L1_E f d) m n v = some (v ++ silOne f m n)
  | 0, n, v, h => by rw [Rn, M_g_silent_L1_E, silOne, List.append_nil]
  | m + 1, n, v, h => by
    rw [Rn, M_g_silent_L1_B, silOne]
    by_cases hn : (n : Int) = f.2
    · rw [show ((n : Int) != f.2) = false from by simp [hn], sel_ff, if_neg (by simp [hn]), List.nil_append]
      exact silent1 f d m (n + 1) v (by omega)
    · rw [show ((n : Int) != f.2) = true from by simp [hn], sel_tt, if_pos hn, grd_t (by omega), ← List.append_assoc]
      exact silent1 f d m (n + 1) _ (by simp; omega)
theorem silent2 (vars : List Int) (hd : ∀ n ∈ vars, 0 ≤ n ∧ n ≤ 64) (e : GEffect) : ∀ (r : List Fact) (i : Int) (v : List (List Fact)), (∀ f ∈ r, 0 ≤ f.1 ∧ f.1 < vars.length) → v.length + r.length * 64 ≤ 100000 →
    Rg (M_g_silent_L2_B vars e) (M_g_silent_L2_E vars e) r i v = some (v ++ silF vars r)
  | [], i, v, hr, h => by rw [Rg, M_g_silent_L2_E, silF, List.flatMap_nil, List.append_nil]
  | f :: r, i, v, hr, h => by
    have hf := hr f (List.mem_cons_self ..)
    obtain ⟨d, hdd⟩ : ∃ d, vars[f.1.toNat]? = some d := ⟨_, List.getElem?_eq_getElem (by omega)⟩
    have hd' := hd d (List.mem_of_getElem? hdd)
    rw [Rg, M_g_silent_L2_B, ixv, ix_getD (d := 0) hf.1 hf.2, List.getD_eq_getElem?_getD, hdd, Option.getD_some, M_g_silent_L1_eq f d v (m := d.toNat) (by omega) (by omega)]
    have h1 := silent1 f d d.toNat 0 v (by rw [List.length_cons] at h; omega)
    rw [show ((0 : Nat) : Int) = 0 from rfl] at h1
    rw [h1, ob1_some, silent2 vars hd e r _ _ (fun u hu => hr u (List.mem_cons_of_mem _ hu)) (by have := silOne_len f d.toNat 0; rw [List.length_cons] at h; rw [List.length_append]; omega)]
    rw [silF, silF, List.flatMap_cons, List.append_assoc, List.getD_eq_getElem?_getD, hdd, Option.getD_some]
theorem silent_eq (vars : List Int) (hd : ∀ n ∈ vars, 0 ≤ n ∧ n ≤ 64) (e : GEffect) (hv : vars.length ≤ 64) (hw : propF vars (-1) e.When = true) :
    M_g_silent vars e = some (capR (silF vars e.When)) := by
  have hl := prop_len hv hw
  obtain ⟨h1, h2⟩ := (propF_iff vars _ (-1)).1 hw
  have hn := ((vF_iff' _).1 h1).1
  rw [M_g_silent, M_g_silent_L2_eq vars e [] (by omega), silent2 vars hd e e.When 0 [] (fun f hf => ⟨(hn f hf).1, (h2 f hf).1⟩) (by simp; omega), ob1_some, List.nil_append, sel_dec, capR]
  by_cases h : (silF vars e.When).length ≤ 1024
  · rw [if_neg (by omega), if_pos h, grd_t (by omega)]
  · rw [if_pos (by omega), if_neg h]
end Go.Proofs.YtohjegemooakpaaGreat.Am
/- Plain laws: regress.cases, preimage. -/
namespace Go.Proofs.YtohjegemooakpaaGreat.Am
open Go.RowKit
def capO (l : List (List Fact)) : Option (List (List Fact)) := if l.length ≤ 1024 then some l else none
def resR : Option (List (List Fact)) → List (List Fact) × Er
  | some l => (l, Er.nil)
  | none => ([], Er.no 5)
theorem capR_res (l : List (List Fact)) : capR l = resR (capO l) := by unfold capR capO; split <;> rfl
theorem capO_some {l m : List (List Fact)} (h : capO l = some m) : m = l ∧ l.length ≤ 1024 := by
  unfold capO at h; split at h
  · exact ⟨(Option.some.inj h).symm, ‹_›⟩
  · cases h
theorem ob2_res {γ : Type} {K : List (List Fact) → Option γ} {F : Int → Option γ} : ∀ o : Option (List (List Fact)), ob2 (some (resR o)) (fun z e => erM e (K z) F) = match o with | some l => K l | none => F 5
  | some _ => rfl
  | none => rfl
def quietG (vars : List Int) (f : Fact) : List GEffect → List (List Fact) → Option (List (List Fact))
  | [], l => some l
  | e :: r, l => if e.Val = f.2 then quietG vars f r l else (capO (silF vars e.When)).bind fun q => (capO (joinLL l q)).bind fun j => quietG vars f r j
def casesG (vars : List Int) (f : Fact) : List GEffect → Option (List (List Fact))
  | [] => some []
  | e :: r => (casesG vars f r).bind fun out => if e.Val = f.2 then (quietG vars f r [e.When]).map (fun l => l.foldl addN out) else some out
def casesE (vars : List Int) (f : Fact) (es : List GEffect) : Option (List (List Fact)) := (casesG vars f es).bind fun out => (quietG vars f es [[f]]).map (fun l => l.foldl addN out)
def casesO (vars : List Int) (o : GOp) (f : Fact) : Option (List (List Fact)) := (casesE vars f (o.Effs.filter (fun e => e.Var == f.1))).bind capO
structure Ok (vars : List Int) : Prop where
  len : vars.length ≤ 64
  dom : ∀ n ∈ vars, 0 ≤ n ∧ n ≤ 64
abbrev WhenP (vars : List Int) (es : List GEffect) : Prop := ∀ e ∈ es, propF vars (-1) e.When = true
theorem quietG_prop {vars : List Int} {f : Fact} : ∀ {es : List GEffect} {l j : List (List Fact)}, WhenP vars es → PropL vars l → l.length ≤ 1024 → quietG vars f es l = some j → PropL vars j ∧ j.length ≤ 1024
  | [], l, j, _, hl, hc, h => by rw [quietG] at h; cases h; exact ⟨hl, hc⟩
  | e :: r, l, j, he, hl, hc, h => by
    have he' : WhenP vars r := fun u hu => he u (List.mem_cons_of_mem _ hu)
    rw [quietG] at h
    split at h
    · exact quietG_prop he' hl hc h
    · cases hq : capO (silF vars e.When) with
      | none => rw [hq] at h; cases h
      | some q =>
        rw [hq, Option.bind_some] at h
        cases hj : capO (joinLL l q) with
        | none => rw [hj] at h; cases h
        | some m =>
          rw [hj, Option.bind_some] at h
          obtain ⟨rfl, -⟩ := capO_some hq
          obtain ⟨rfl, hc'⟩ := capO_some hj
          exact quietG_prop he' (joinLL_prop hl (silF_prop (he e (List.mem_cons_self ..)))) hc' h
theorem foldN_mem {α : Type} [DecidableEq α] (x : α) : ∀ (l out : List α), x ∈ l.foldl addN out ↔ x ∈ out ∨ x ∈ l
  | [], out => by simp
  | y :: r, out => by rw [List.foldl_cons, foldN_mem x r, addN_mem, List.mem_cons, or_assoc]
theorem foldN_len {α : Type} [DecidableEq α] : ∀ (l out : List α), (l.foldl addN out).length ≤ out.length + l.length
  | [], out => by simp
  | y :: r, out => by
    rw [List.foldl_cons]
    have h1 := foldN_len r (addN out y)
    have h2 : (addN out y).length ≤ out.length + 1 := by unfold addN; split <;> simp
    rw [List.length_cons]; omega
theorem casesG_prop {vars : List Int} {f : Fact} : ∀ {es : List GEffect} {j : List (List Fact)}, WhenP vars es → casesG vars f es = some j → PropL vars j ∧ j.length ≤ es.length * 1024
  | [], j, _, h => by rw [casesG] at h; cases h; exact ⟨(fun _ h => nomatch h), Nat.le_refl _⟩
  | e :: r, j, he, h => by
    have he' : WhenP vars r := fun u hu => he u (List.mem_cons_of_mem _ hu)
    rw [casesG] at h
    cases hr : casesG vars f r with
    | none => rw [hr] at h; cases h
    | some out =>
      obtain ⟨i1, i2⟩ := casesG_prop he' hr
      rw [hr, Option.bind_some] at h
      split at h
      · cases hq : quietG vars f r [e.When] with
        | none => rw [hq] at h; cases h
        | some q =>
          rw [hq, Option.map_some] at h
          cases h
          obtain ⟨q1, q2⟩ := quietG_prop he' (fun x hx => by rw [List.mem_singleton.1 hx]; exact he e (List.mem_cons_self ..)) (by simp) hq
          refine ⟨fun x hx => ?_, ?_⟩
          · rcases (foldN_mem x q out).1 hx with h | h
            · exact i1 x h
            · exact q1 x h
          · have := foldN_len q out
            rw [List.length_cons]; omega
      · obtain rfl := Option.some.inj h
        refine ⟨i1, Nat.le_trans i2 (Nat.mul_le_mul_right _ ?_)⟩
        rw [List.length_cons]; omega
def sumR : Option (List (List Fact)) → List (List Fact) ⊕ (List (List Fact) × Er)
  | some l => .inl l
  | none => .inr ([], Er.no 5)
theorem cases2 {vars : List Int} (ho : Ok vars) (f : Fact) (g : Nat) (hg : 21 ≤ g) (es : List GEffect) (n : Nat) (hes : es.length ≤ 64) (hp : WhenP vars es) (i : Int) (hi : IntKind.i64.wrap (i + 1) = (n : Int)) : ∀ (r : List GEffect) (k : Nat) (l : List (List Fact)), es.drop (n + k) = r → PropL vars l → l.length ≤ 1024 →
    Rn (M_g_cases_L2_B vars f g es i) (M_g_cases_L2_E vars f g es i) r.length k l = some (sumR (quietG vars f r l))
  | [], k, l, hr, hl, hc => by rw [List.length_nil, Rn, M_g_cases_L2_E, quietG, sumR]
  | e :: r, k, l, hr, hl, hc => by
    obtain ⟨hy, hd, hlt⟩ := drop_cons hr
    have hd' : es.drop (n + (k + 1)) = r := hd
    have hw := hp e (List.mem_of_getElem? hy)
    rw [List.length_cons, Rn, M_g_cases_L2_B, hi, Int.toNat_natCast, Int.toNat_natCast, ixn_at hy, grd_t (by omega), grd_t (by omega), quietG]
    by_cases hv : e.Val = f.2
    · rw [show (e.Val == f.2) = true from by simp [hv], sel_tt, if_pos hv]
      exact cases2 ho f g hg es n hes hp i hi r (k + 1) l hd' hl hc
    · rw [show (e.Val == f.2) = false from by simp [hv], sel_ff, if_neg hv, silent_eq vars ho.dom e ho.len hw, capR_res, ob2_res]
      cases hq : capO (silF vars e.When) with
      | none => rfl
      | some q =>
        obtain ⟨rfl, hqc⟩ := capO_some hq
        have hqp := silF_prop hw
        rw [Option.bind_some]
        show ob2 (M_g_join g l (silF vars e.When)) _ = _
        rw [rjoin_eq vars ho.len g hg l _ hl hqp (Nat.le_trans hc (by decide)) (Nat.le_trans hqc (by decide)), capR_res, ob2_res]
        cases hj : capO (joinLL l (silF vars e.When)) with
        | none => rfl
        | some m =>
          obtain ⟨rfl, hmc⟩ := capO_some hj
          rw [Option.bind_some]
          exact cases2 ho f g hg es n hes hp i hi r (k + 1) _ hd' (joinLL_prop hl hqp) hmc
theorem cases_1_eq (x y : List Fact) (hy : Sh y) : M_g_cases_1 x y = some (decide (y = x)) := by
  rw [M_g_cases_1, compare_eq y x hy, ob1_some]
  congr 1
  by_cases h : y = x
  · rw [decide_eq_true h, beq_iff_eq, cmpLF_zero, h]
  · rw [decide_eq_false h, beq_eq_false_iff_ne, Ne, cmpLF_zero]; exact h
theorem any_mem (l : List (List Fact)) (x : List Fact) : l.any (fun y => decide (y = x)) = decide (x ∈ l) := by
  rw [Bool.eq_iff_iff, List.any_eq_true, decide_eq_true_iff]
  constructor
  · rintro ⟨y, hy, h⟩; rw [← of_decide_eq_true h]; exact hy
  · intro h; exact ⟨x, h, decide_eq_true rfl⟩
theorem cases3 (q : List (List Fact)) : ∀ (r : List (List Fact)) (i : Int) (v : List (List Fact)), v.length + r.length ≤ 1000000 → (∀ x ∈ v, Sh x) → (∀ x ∈ r, Sh x) →
    Rg (M_g_cases_L3_B q) (M_g_cases_L3_E q) r i v = some (.inl (r.foldl addN v))
  | [], i, v, _, _, _ => rfl
  | y :: r, i, v, h, hv, hr => by
    have hr' : ∀ x ∈ r, Sh x := fun u hu => hr u (List.mem_cons_of_mem _ hu)
    rw [List.length_cons] at h
    rw [Rg, M_g_cases_L3_B, ixv, grd_t (by omega), containsFunc_eq (p := fun x => decide (x = y)) (by show _ ≤ _; omega) (fun x hx => cases_1_eq y x (hv x hx)), ob1_some, any_mem, List.foldl_cons]
    by_cases hm : y ∈ v
    · rw [decide_eq_true hm, Bool.not_true, sel_ff, addN, if_pos hm]
      exact cases3 q r _ v (by omega) hv hr'
    · rw [decide_eq_false hm, Bool.not_false, sel_tt, addN, if_neg hm, grd_t (by omega)]
      refine cases3 q r _ _ (by rw [List.length_append, List.length_singleton]; omega) (fun x hx => ?_) hr'
      rcases List.mem_append.1 hx with h | h
      · exact hv x h
      · rw [List.mem_singleton.1 h]; exact hr y (List.mem_cons_self ..)
theorem casesG_none {vars : List Int} {f : Fact} {es : List GEffect} : ∀ n : Nat, casesG vars f (es.drop n) = none → casesG vars f es = none
  | 0, h => h
  | n + 1, h => by
    refine casesG_none n ?_
    rcases Nat.lt_or_ge n es.length with hn | hn
    · obtain ⟨y, -, hd⟩ := drop_at hn
      rw [hd, casesG, h]; rfl
    · rw [List.drop_eq_nil_of_le hn]
      rw [List.drop_eq_nil_of_le (by omega)] at h
      exact h
theorem cases23 {vars : List Int} (ho : Ok vars) (f : Fact) (g : Nat) (hg : 21 ≤ g) (es : List GEffect) (n : Nat) (hes : es.length ≤ 64) (hp : WhenP vars es) (hn : n ≤ es.length) (l out : List (List Fact)) (hl : PropL vars l) (hlc : l.length ≤ 1024) (hout : PropL vars out) (hoc : out.length ≤ 70000) :
    ob1 (grd (0 ≤ (IntKind.i64.wrap (((n : Int) - 1) + 1))) (grd ((IntKind.i64.wrap (((n : Int) - 1) + 1)).toNat ≤ es.length) (M_g_cases_L2 vars f g es ((n : Int) - 1) ((((es.length - (IntKind.i64.wrap (((n : Int) - 1) + 1)).toNat : Nat) : Int)).toNat + 1) l 0)))
      (osum (fun v892 => M_g_cases_L3 v892 ((((v892.map cL_cF).length : Int)).toNat + 1) 0 out) (fun (r893, r894) => some (.inr (r893, r894)))) =
    some (sumR ((quietG vars f (es.drop n) l).map (fun l => l.foldl addN out))) := by
  have hi : IntKind.i64.wrap (((n : Int) - 1) + 1) = (n : Int) := by rw [w64 (by omega) (by omega)]; omega
  have h2 := cases2 ho f g hg es n hes hp _ hi (es.drop n) 0 l rfl hl hlc
  rw [M_g_cases_L2_eq vars f g es _ l (m := (es.drop n).length) (by rw [hi, List.length_drop]; rfl) (by rw [List.length_drop]; omega), hi, grd_t (by omega), grd_t (by omega)]
  rw [show ((0 : Nat) : Int) = 0 from rfl] at h2
  rw [h2, ob1_some]
  cases hq : quietG vars f (es.drop n) l with
  | none => rfl
  | some q =>
    obtain ⟨q1, q2⟩ := quietG_prop (fun e he => hp e (List.mem_of_mem_drop he)) hl hlc hq
    rw [sumR, osum_inl, M_g_cases_L3_eq q out (by omega), cases3 q q 0 out (by omega) (fun x hx => prop_sh ho.len (hout x hx)) (fun x hx => prop_sh ho.len (q1 x hx))]
    rfl
theorem cases4 {vars : List Int} (ho : Ok vars) (f : Fact) (g : Nat) (hg : 21 ≤ g) (es : List GEffect) (hes : es.length ≤ 64) (hp : WhenP vars es) (hf : propF vars (-1) [f] = true) : ∀ (n : Nat) (k : Nat) (out : List (List Fact)), n ≤ es.length → casesG vars f (es.drop n) = some out →
    M_g_cases_L4 vars f g es (n + 2 + k) ((n : Int) - 1) out = some (sumR (casesE vars f es))
  | 0, k, out, hn, h => by
    obtain ⟨o1, o2⟩ := casesG_prop (fun e he => hp e (List.mem_of_mem_drop he)) h
    rw [show 0 + 2 + k = (0 + 1 + k) + 1 from by omega, M_g_cases_L4, sel_dec, if_pos (by decide), sel_dec, if_neg (by decide), ob1_some, osum_inl,
      cases23 ho f g hg es 0 hes hp hn [[f]] out (fun x hx => by rw [List.mem_singleton.1 hx]; exact hf) (by simp) o1 (by rw [List.drop_zero] at o2; omega), ob1_some, casesE]
    rw [List.drop_zero] at h ⊢
    rw [h, Option.bind_some]
    cases (quietG vars f es [[f]]) with
    | none => rfl
    | some q =>
      rw [Option.map_some, sumR, osum_inl, show 0 + 1 + k = k + 1 from by omega, M_g_cases_L4, sel_dec, if_neg (by decide)]
  | n + 1, k, out, hn, h => by
    obtain ⟨e, hy, hd⟩ := drop_at (l := es) (n := n) (by omega)
    obtain ⟨o1, o2⟩ := casesG_prop (fun e he => hp e (List.mem_of_mem_drop he)) h
    rw [show n + 1 + 2 + k = (n + 2 + k) + 1 from by omega, M_g_cases_L4, sel_dec, if_pos (by omega), sel_dec, if_pos (by omega), show ((n + 1 : Nat) : Int) - 1 = (n : Int) from by omega, Int.toNat_natCast, ixn_at hy, grd_t (by omega), grd_t (by omega)]
    have hnext : IntKind.i64.wrap ((n : Int) - 1) = (n : Int) - 1 := w64 (by omega) (by omega)
    have hG : casesG vars f (es.drop n) = if e.Val = f.2 then (quietG vars f (es.drop (n + 1)) [e.When]).map (fun l => l.foldl addN out) else some out := by rw [hd, casesG, h]; rfl
    by_cases hv : e.Val = f.2
    · rw [if_pos hv] at hG
      have h23 := cases23 ho f g hg es (n + 1) hes hp hn [e.When] out (fun x hx => by rw [List.mem_singleton.1 hx]; exact hp e (List.mem_of_getElem? hy)) (by simp) o1 (by rw [List.length_drop] at o2; omega)
      rw [show ((n + 1 : Nat) : Int) - 1 = (n : Int) from by omega, ← hG] at h23
      rw [show (e.Val != f.2) = false from by simp [hv], sel_ff, ixn_at hy, ob1_some, osum_inl, h23, ob1_some]
      cases hc : casesG vars f (es.drop n) with
      | none => rw [sumR, osum_inr, casesE, casesG_none n hc]; rfl
      | some out' =>
        rw [sumR, osum_inl, hnext]
        exact cases4 ho f g hg es hes hp hf n k out' (by omega) hc
    · rw [if_neg hv] at hG
      rw [show (e.Val != f.2) = true from by simp [hv], sel_tt, ob1_some, osum_inr, ob1_some, osum_inl, hnext]
      exact cases4 ho f g hg es hes hp hf n k out (by omega) hG
theorem cases1 (o : GOp) (f : Fact) : ∀ (r : List GEffect) (i : Int) (v : List GEffect), v.length + r.length ≤ 1000000 → Rg (M_g_cases_L1_B o f) (M_g_cases_L1_E o f) r i v = some (v ++ r.filter (fun e => e.Var == f.1))
  | [], i, v, h => by rw [Rg, M_g_cases_L1_E, List.filter_nil, List.append_nil]
  | e :: r, i, v, h => by
    rw [List.length_cons] at h
    rw [Rg, M_g_cases_L1_B, ixv]
    cases hv : e.Var == f.1 with
    | true =>
      rw [sel_tt, grd_t (by omega), cases1 o f r _ _ (by rw [List.length_append, List.length_singleton]; omega), List.filter_cons, hv, if_pos rfl, List.append_assoc, List.singleton_append]
    | false =>
      rw [sel_ff, cases1 o f r _ _ (by omega), List.filter_cons, hv, if_neg (by decide)]
theorem cases_eq {vars : List Int} (ho : Ok vars) (o : GOp) (f : Fact) (g : Nat) (hg : 70 ≤ g) (hes : o.Effs.length ≤ 64) (hp : WhenP vars o.Effs) (hf : propF vars (-1) [f] = true) :
    M_g_cases g vars o f = some (resR (casesO vars o f)) := by
  rw [M_g_cases, M_g_cases_L1_eq o f [] (by omega), cases1 o f o.Effs 0 [] (by simp; omega), List.nil_append, ob1_some, casesO]
  have hle : (o.Effs.filter (fun e => e.Var == f.1)).length ≤ 64 := Nat.le_trans (List.length_filter_le _ _) hes
  have hp' : WhenP vars (o.Effs.filter (fun e => e.Var == f.1)) := fun e he => hp e (List.mem_filter.1 he).1
  generalize o.Effs.filter (fun e => e.Var == f.1) = es at hle hp'
  have h4 := cases4 ho f g (by omega) es hle hp' hf es.length (g - (es.length + 2)) [] (Nat.le_refl _) (by rw [List.drop_length, casesG])
  rw [show es.length + 2 + (g - (es.length + 2)) = g from by omega] at h4
  rw [w64 (by omega) (by omega), h4, ob1_some]
  cases casesE vars f es with
  | none => rfl
  | some l =>
    rw [sumR, osum_inl, sel_dec, Option.bind_some, capO]
    by_cases h : l.length ≤ 1024
    · rw [if_neg (by omega), if_pos h]; exact grd_t (by omega)
    · rw [if_pos (by omega), if_neg h]; rfl
end Go.Proofs.YtohjegemooakpaaGreat.Am
/- Plain laws: regress.preimage, partial.Minimal, regress.Regress, Possible. -/
namespace Go.Proofs.YtohjegemooakpaaGreat.Am
open Go.RowKit
-- preimage
def mapC (vars : List Int) (o : GOp) : List Fact → Option (List (List (List Fact)))
  | [] => some []
  | f :: r => (casesO vars o f).bind fun c => (mapC vars o r).map (c :: ·)
def foldJ : List (List (List Fact)) → List (List Fact) → Option (List (List Fact))
  | [], l => some l
  | c :: r, l => (capO (joinLL l c)).bind (foldJ r)
/-- the last list of the computation -/
def regG (vars : List Int) (o : GOp) : List Fact → List (List Fact) → Option (List (List Fact))
  | [], l => some l
  | f :: r, l => (casesO vars o f).bind fun c => (capO (joinLL l c)).bind (regG vars o r)
theorem mapC_foldJ (vars : List Int) (o : GOp) : ∀ (p : List Fact) (l : List (List Fact)), (mapC vars o p).bind (fun cs => foldJ cs l) = regG vars o p l
  | [], l => rfl
  | f :: r, l => by
    rw [mapC, regG]
    cases casesO vars o f with
    | none => rfl
    | some c =>
      rw [Option.bind_some, Option.bind_some]
      cases hc : capO (joinLL l c) with
      | none => cases mapC vars o r <;> simp [foldJ, hc]
      | some j =>
        rw [Option.bind_some, ← mapC_foldJ vars o r j]
        cases mapC vars o r <;> simp [foldJ, hc]
theorem casesO_prop {vars : List Int} {o : GOp} {f : Fact} {c : List (List Fact)} (hp : WhenP vars o.Effs) (hf : propF vars (-1) [f] = true) (h : casesO vars o f = some c) : PropL vars c ∧ c.length ≤ 1024 := by
  unfold casesO at h
  have hp' : WhenP vars (o.Effs.filter (fun e => e.Var == f.1)) := fun e he => hp e (List.mem_filter.1 he).1
  generalize o.Effs.filter (fun e => e.Var == f.1) = es at h hp'
  cases he : casesE vars f es with
  | none => rw [he] at h; cases h
  | some l =>
    rw [he, Option.bind_some] at h
    obtain ⟨rfl, hc⟩ := capO_some h
    refine ⟨?_, hc⟩
    unfold casesE at he
    cases hg : casesG vars f es with
    | none => rw [hg] at he; cases he
    | some out =>
      rw [hg, Option.bind_some] at he
      cases hq : quietG vars f es [[f]] with
      | none => rw [hq] at he; cases he
      | some q =>
        rw [hq, Option.map_some] at he
        cases he
        intro x hx
        rcases (foldN_mem x q out).1 hx with h | h
        · exact (casesG_prop hp' hg).1 x h
        · exact (quietG_prop hp' (fun x hx => by rw [List.mem_singleton.1 hx]; exact hf) (by simp) hq).1 x h
theorem propF_one {vars : List Int} {p : List Fact} (h : propF vars (-1) p = true) {f : Fact} (hf : f ∈ p) : propF vars (-1) [f] = true := by
  obtain ⟨h1, h2⟩ := (propF_iff vars p (-1)).1 h
  have hn := ((vF_iff' p).1 h1).1 f hf
  refine (propF_iff vars _ (-1)).2 ⟨(vF_iff' _).2 ⟨fun x hx => ?_, List.pairwise_singleton ..⟩, fun x hx => ?_⟩
  · rw [List.mem_singleton.1 hx]; exact hn
  · rw [List.mem_singleton.1 hx]; exact h2 f hf
def sumC : Option (List (List (List Fact))) → List (List (List Fact)) ⊕ (List (List Fact) × Er)
  | some l => .inl l
  | none => .inr ([], Er.no 5)
theorem pre1 (t : GTask) (ho : Ok t.Vars) (p : List Fact) (hpf : propF t.Vars (-1) p = true) (g : Nat) (hg : 70 ≤ g) (o : GOp) (hes : o.Effs.length ≤ 64) (hp : WhenP t.Vars o.Effs) : ∀ (r : List Fact) (acc : List (List (List Fact))), (∀ f ∈ r, f ∈ p) →
    Rg (M_g_preimage_L1_B t p g o) (M_g_preimage_L1_E t p g o) r acc.length (acc ++ List.replicate r.length []) = some (sumC ((mapC t.Vars o r).map (acc ++ ·)))
  | [], acc, hr => by rw [Rg, M_g_preimage_L1_E, mapC, Option.map_some]; rfl
  | f :: r, acc, hr => by
    have hf := hr f (List.mem_cons_self ..)
    rw [Rg, M_g_preimage_L1_B, ixv, cases_eq ho o f g hg hes hp (propF_one hpf hf), ob2_res, mapC]
    cases casesO t.Vars o f with
    | none => rfl
    | some c =>
      have he : (acc ++ List.replicate (f :: r).length ([] : List (List Fact)))[acc.length]? = some [] := by simp [List.replicate_succ]
      have hs : (acc ++ List.replicate (f :: r).length ([] : List (List Fact))).set acc.length c = (acc ++ [c]) ++ List.replicate r.length [] := by
        rw [List.set_append_right _ _ (Nat.le_refl _), Nat.sub_self, List.length_cons, List.replicate_succ, List.set_cons_zero, List.append_assoc, List.singleton_append]
      rw [Option.bind_some]
      show ixn _ _ _ = _
      rw [Int.toNat_natCast, ixn_at he, grd_t (by simp; omega), hs]
      have ih := pre1 t ho p hpf g hg o hes hp r (acc ++ [c]) (fun u hu => hr u (List.mem_cons_of_mem _ hu))
      rw [show ((acc ++ [c]).length : Int) = (acc.length : Int) + 1 from by simp] at ih
      rw [ih]
      cases mapC t.Vars o r with
      | none => rfl
      | some cs => simp
theorem pre2 {vars : List Int} (hv : vars.length ≤ 64) (g : Nat) (hg : 21 ≤ g) (cs : List (List (List Fact))) (hcs : ∀ c ∈ cs, PropL vars c ∧ c.length ≤ 1024) : ∀ (r : List (List (List Fact))) (n : Nat) (l : List (List Fact)), cs.drop n = r → PropL vars l → l.length ≤ 1024 →
    Rn (M_g_preimage_L2_B g cs) (M_g_preimage_L2_E g cs) r.length n l = some (resR (foldJ r l))
  | [], n, l, h, hl, hc => by rw [List.length_nil, Rn, M_g_preimage_L2_E, foldJ, resR]
  | c :: r, n, l, h, hl, hc => by
    obtain ⟨hy, hd, hlt⟩ := drop_cons h
    obtain ⟨c1, c2⟩ := hcs c (List.mem_of_getElem? hy)
    rw [List.length_cons, Rn, M_g_preimage_L2_B, Int.toNat_natCast, ixn_at hy, grd_t (by omega), grd_t (by omega), rjoin_eq vars hv g hg l c hl c1 (Nat.le_trans hc (by decide)) (Nat.le_trans c2 (by decide)), capR_res, ob2_res, foldJ]
    cases hj : capO (joinLL l c) with
    | none => rfl
    | some m =>
      obtain ⟨rfl, hm⟩ := capO_some hj
      rw [Option.bind_some]
      exact pre2 hv g hg cs hcs r (n + 1) _ hd (joinLL_prop hl c1) hm
theorem mapC_prop {vars : List Int} {o : GOp} (hp : WhenP vars o.Effs) : ∀ {p : List Fact} {cs : List (List (List Fact))}, (∀ f ∈ p, propF vars (-1) [f] = true) → mapC vars o p = some cs → (∀ c ∈ cs, PropL vars c ∧ c.length ≤ 1024) ∧ cs.length = p.length
  | [], cs, _, h => by rw [mapC] at h; cases h; exact ⟨(fun _ h => nomatch h), rfl⟩
  | f :: r, cs, hf, h => by
    rw [mapC] at h
    cases hc : casesO vars o f with
    | none => rw [hc] at h; cases h
    | some c =>
      rw [hc, Option.bind_some] at h
      cases hr : mapC vars o r with
      | none => rw [hr] at h; cases h
      | some ds =>
        rw [hr, Option.map_some] at h
        obtain rfl := Option.some.inj h
        obtain ⟨i1, i2⟩ := mapC_prop hp (fun u hu => hf u (List.mem_cons_of_mem _ hu)) hr
        refine ⟨fun x hx => ?_, by rw [List.length_cons, List.length_cons, i2]⟩
        rcases List.mem_cons.1 hx with rfl | hx
        · exact casesO_prop hp (hf f (List.mem_cons_self ..)) hc
        · exact i1 x hx
structure OkO (vars : List Int) (o : GOp) : Prop where
  effs : o.Effs.length ≤ 64
  when : WhenP vars o.Effs
  pre : propF vars (-1) o.Pre = true
theorem good_ok {t : GTask} (h : goodF t = true) : Ok t.Vars := by
  unfold goodF at h
  simp only [Bool.and_eq_true, decide_eq_true_iff, List.all_eq_true] at h
  exact ⟨h.1.1, fun n hn => by have := h.2.1 n hn; omega⟩
theorem good_op {t : GTask} (h : goodF t = true) {o : GOp} (ho : o ∈ t.Ops) : OkO t.Vars o := by
  unfold goodF at h
  simp only [Bool.and_eq_true, List.all_eq_true] at h
  have h1 := h.2.2.2.2 o ho
  unfold opF at h1
  simp only [Bool.and_eq_true, decide_eq_true_iff, List.all_eq_true] at h1
  refine ⟨h1.1.2.2.1, fun e he => ?_, h1.2.1⟩
  have h2 := h1.2.2.2 e he
  unfold effF at h2
  exact (Bool.and_eq_true _ _ ▸ h2).1
theorem preimage_eq (t : GTask) (ht : ShT t) (hgood : goodF t = true) (p : List Fact) (hpf : propF t.Vars (-1) p = true) (g : Nat) (hg : 70 ≤ g) (op : Int) (o : GOp) (h0 : 0 ≤ op) (hop : t.Ops[op.toNat]? = some o) :
    M_g_preimage g t op p = some (resR (regG t.Vars o p [o.Pre])) := by
  have ok := good_ok hgood
  have oo := good_op hgood (List.mem_of_getElem? hop)
  have hlt := lt_some hop
  have hpl := prop_len ok.len hpf
  have hpre := prop_len ok.len oo.pre
  obtain ⟨k, rfl⟩ : ∃ k : Nat, op = k := ⟨op.toNat, by omega⟩
  rw [Int.toNat_natCast] at hop hlt
  rw [M_g_preimage, check_eq t ht, (good_check t).1 hgood, ob1_some]
  show ob1 _ _ = _
  rw [sel_dec, if_neg (by omega), sel_dec, if_neg (by rw [List.length_map]; omega), ob1_some, osum_inl, facts_eq _ _ (by show _ ≤ _; omega), hpf, ob1_some, Bool.not_true, sel_ff, ix_at hop,
    grd_t (by omega), grd_t (by rw [List.length_map]; omega), M_g_preimage_L1_eq t p g o _ (by omega)]
  have h1 := pre1 t ok p hpf g hg o oo.effs oo.when p [] (fun _ h => h)
  rw [List.nil_append] at h1
  rw [List.length_map, Int.toNat_natCast]
  have h1' : Rg (M_g_preimage_L1_B t p g o) (M_g_preimage_L1_E t p g o) p 0 (List.replicate p.length []) = some (sumC (mapC t.Vars o p)) := by
    rw [show ((([] : List (List (List Fact))).length : Nat) : Int) = 0 from rfl] at h1
    rw [h1]; cases mapC t.Vars o p <;> rfl
  rw [h1', ob1_some, ← mapC_foldJ]
  cases hm : mapC t.Vars o p with
  | none => rfl
  | some cs =>
    obtain ⟨c1, c2⟩ := mapC_prop oo.when (fun f hf => propF_one hpf hf) hm
    rw [sumC, osum_inl, M_cloneF, grd_t (by omega), ob1_some, grd_t (by omega), M_g_preimage_L2_eq g cs [o.Pre] (m := cs.length) rfl (by omega), Option.bind_some]
    exact pre2 ok.len g (by omega) cs c1 cs 0 [o.Pre] rfl (fun x hx => by rw [List.mem_singleton.1 hx]; exact oo.pre) (by simp)
-- Minimal
def findF : List Fact → Int → Int
  | [], _ => -1
  | f :: r, v => if f.1 = v then f.2 else findF r v
theorem find_loop (l : List Fact) (v : Int) : ∀ (r : List Fact) (i : Int), Rg (M_p_find_L1_B l v) (M_p_find_L1_E l v) r i () = some (findF r v)
  | [], i => rfl
  | f :: r, i => by
    rw [Rg, M_p_find_L1_B, ixv, findF]
    by_cases h : f.1 = v
    · rw [show (f.1 == v) = true from by simp [h], sel_tt, if_pos h]
    · rw [show (f.1 == v) = false from by simp [h], sel_ff, if_neg h, find_loop l v r]
theorem find_eq (l : List Fact) (v : Int) (hl : Sh l) : M_p_find l v = some (findF l v) := by rw [M_p_find, M_p_find_L1_eq l v hl.lt, find_loop]
theorem findF_mem : ∀ {l : List Fact} {f : Fact}, Asc l → 0 ≤ f.2 → (findF l f.1 = f.2 ↔ f ∈ l)
  | [], f, _, h0 => by rw [findF]; constructor; (intro h; omega); exact (nofun)
  | x :: r, f, ha, h0 => by
    obtain ⟨h1, h2⟩ := List.pairwise_cons.1 ha
    rw [findF, List.mem_cons]
    by_cases h : x.1 = f.1
    · rw [if_pos h]
      constructor
      · intro e; exact Or.inl (Prod.ext h.symm e.symm)
      · rintro (rfl | hm)
        · rfl
        · have := h1 f hm; omega
    · rw [if_neg h, findF_mem h2 h0]
      constructor
      · exact Or.inr
      · rintro (rfl | hm)
        · exact absurd rfl h
        · exact hm
def subF (b a : List Fact) : Bool := b.all fun f => decide (f ∈ a)
theorem subF_iff {a b : List Fact} : subF b a = true ↔ ∀ f ∈ b, f ∈ a := by simp [subF]
theorem contains_eq (a b : List Fact) (ha : Sh a) (hb : Sh b) (hva : vF (-1) a = true) (hvb : vF (-1) b = true) : M_p_contains a b = some (subF b a) := by
  rw [M_p_contains, M_p_contains_L1_eq a b hb.lt, rg_all (p := fun f => decide (f ∈ a)) (c := some false)]
  · rw [M_p_contains_L1_E]; show _ = some (b.all _); cases b.all fun f => decide (f ∈ a) <;> rfl
  · intro y hy i rc
    have h := findF_mem (f := y) ((vF_iff' a).1 hva).2 ((vF_iff' b).1 hvb |>.1 y hy).2
    rw [M_p_contains_L1_B, ixv, find_eq a _ ha, ob1_some]
    by_cases hm : y ∈ a
    · rw [show (findF a y.1 != y.2) = false from by rw [h.2 hm]; simp, sel_ff, decide_eq_true hm, if_pos rfl]
    · rw [show (findF a y.1 != y.2) = true from by rw [bne_iff_ne]; exact fun e => hm (h.1 e), sel_tt, decide_eq_false hm, if_neg (by decide)]
theorem sub_len : ∀ {a b : List Fact}, Asc a → Asc b → (∀ f ∈ b, f ∈ a) → b.length ≤ a.length ∧ (b.length = a.length → b = a)
  | [], [], _, _, _ => ⟨Nat.le_refl _, fun _ => rfl⟩
  | [], y :: s, _, _, h => nomatch h y (List.mem_cons_self ..)
  | x :: r, [], _, _, _ => ⟨Nat.zero_le _, fun e => by cases e⟩
  | x :: r, y :: s, ha, hb, h => by
    obtain ⟨h1, h2⟩ := List.pairwise_cons.1 ha
    obtain ⟨k1, k2⟩ := List.pairwise_cons.1 hb
    rcases List.mem_cons.1 (h y (List.mem_cons_self ..)) with e | hy
    · subst e
      obtain ⟨i1, i2⟩ := sub_len h2 k2 (fun z hz => by
        rcases List.mem_cons.1 (h z (List.mem_cons_of_mem _ hz)) with e | h'
        · have := k1 z hz; rw [e] at this; omega
        · exact h')
      refine ⟨by rw [List.length_cons, List.length_cons]; omega, fun e => ?_⟩
      rw [List.length_cons, List.length_cons] at e
      rw [i2 (by omega)]
    · obtain ⟨i1, -⟩ := sub_len (a := r) h2 hb (fun z hz => by
        rcases List.mem_cons.1 (h z hz) with e | h'
        · have l1 := h1 y hy
          rcases List.mem_cons.1 hz with e2 | hz
          · rw [e] at e2; rw [← e2] at l1; omega
          · have l2 := k1 z hz; rw [e] at l2; omega
        · exact h')
      rw [List.length_cons] at i1
      exact ⟨by rw [List.length_cons, List.length_cons]; omega, fun e => by rw [List.length_cons, List.length_cons] at e; omega⟩
theorem nodup_at {α : Type} {l : List α} (h : l.Nodup) {i j : Nat} {x : α} (hi : l[i]? = some x) (hj : l[j]? = some x) : i = j := by
  obtain ⟨b1, b2⟩ := List.getElem?_eq_some_iff.1 hi
  obtain ⟨b3, b4⟩ := List.getElem?_eq_some_iff.1 hj
  rcases Nat.lt_trichotomy i j with hl | hl | hl
  · exact absurd (b2.trans b4.symm) (List.pairwise_iff_getElem.1 h i j b1 b3 hl)
  · exact hl
  · exact absurd (b4.trans b2.symm) (List.pairwise_iff_getElem.1 h j i b3 b1 hl)
def keepF (l : List (List Fact)) (x : List Fact) : Bool := l.all fun y => !(subF y x && decide (y ≠ x))
theorem min1 (vars : List Int) (hv : vars.length ≤ 64) (l : List (List Fact)) (hl : PropL vars l) (hn : l.Nodup) (i : Nat) (x : List Fact) (hx : l[i]? = some x) : ∀ (r : List (List Fact)) (n : Nat), l.drop n = r →
    Rg (M_p_Minimal_L1_B l i x) (M_p_Minimal_L1_E l i x) r n () = some (r.all fun y => !(subF y x && decide (y ≠ x)))
  | [], n, h => rfl
  | y :: r, n, h => by
    obtain ⟨hy, hd, hlt⟩ := drop_cons h
    have hxp := hl x (List.mem_of_getElem? hx)
    have hyp := hl y (List.mem_of_getElem? hy)
    have ih := min1 vars hv l hl hn i x hx r (n + 1) hd
    have vx := propF_vF' hxp
    have vy := propF_vF' hyp
    rw [Rg, M_p_Minimal_L1_B, ixv, List.all_cons]
    by_cases e : i = n
    · subst e
      obtain rfl : x = y := by rw [hx] at hy; exact Option.some.inj hy
      rw [show ((i : Int) != (i : Int)) = false from by simp, sel_ff, decide_eq_false (by simp), Bool.and_false, Bool.not_false, Bool.true_and]
      exact ih
    · have hne : y ≠ x := fun h => e (nodup_at hn hx (h ▸ hy))
      rw [show ((i : Int) != (n : Int)) = true from by rw [bne_iff_ne]; omega, sel_tt, valid_eq y (prop_sh hv hyp), vy, ob1_some, sel_tt, contains_eq x y (prop_sh hv hxp) (prop_sh hv hyp) vx vy, ob1_some, decide_eq_true hne, Bool.and_true]
      cases hs : subF y x with
      | false => rw [sel_ff, Bool.not_false, Bool.true_and]; exact ih
      | true =>
        obtain ⟨s1, s2⟩ := sub_len ((vF_iff' x).1 vx).2 ((vF_iff' y).1 vy).2 (subF_iff.1 hs)
        have : y.length ≠ x.length := fun e => hne (s2 e)
        rw [sel_tt, sel_dec, if_pos (by rw [List.length_map, List.length_map]; omega), Bool.not_true, Bool.false_and]
theorem min2 (vars : List Int) (hv : vars.length ≤ 64) (l : List (List Fact)) (hl : PropL vars l) (hn : l.Nodup) (hc : l.length ≤ 100000) : ∀ (r : List (List Fact)) (n : Nat) (v : List (List Fact)), l.drop n = r → v.length ≤ n →
    Rg (M_p_Minimal_L2_B l) (M_p_Minimal_L2_E l) r n v = some (v ++ r.filter (keepF l))
  | [], n, v, h, hvl => by rw [Rg, M_p_Minimal_L2_E, List.filter_nil, List.append_nil]
  | x :: r, n, v, h, hvl => by
    obtain ⟨hy, hd, hlt⟩ := drop_cons h
    have hxp := hl x (List.mem_of_getElem? hy)
    have hxl := prop_len hv hxp
    rw [Rg, M_p_Minimal_L2_B, ixv, valid_eq x (prop_sh hv hxp), propF_vF' hxp, ob1_some, Bool.not_true, sel_ff, M_p_Minimal_L1_eq l n x (by omega)]
    have h1 := min1 vars hv l hl hn n x hy l 0 rfl
    rw [show ((0 : Nat) : Int) = 0 from rfl] at h1
    rw [h1, ob1_some, List.filter_cons]
    show ob1 (sel (keepF l x) _ _) _ = _
    cases keepF l x with
    | true =>
      rw [sel_tt, M_cloneF, grd_t (by omega), ob1_some, grd_t (by omega), grd_t (by omega), ob1_some, if_pos rfl]
      have := min2 vars hv l hl hn hc r (n + 1) (v ++ [x]) hd (by rw [List.length_append, List.length_singleton]; omega)
      rw [List.append_assoc, List.singleton_append] at this
      exact this
    | false =>
      rw [sel_ff, ob1_some, if_neg (by decide)]
      exact min2 vars hv l hl hn hc r (n + 1) v hd (by omega)
def minF (l : List (List Fact)) : List (List Fact) := l.filter (keepF l)
theorem minimal_eq (vars : List Int) (hv : vars.length ≤ 64) (l : List (List Fact)) (hl : PropL vars l) (hn : l.Nodup) (hc : l.length ≤ 100000) : M_p_Minimal l = some (minF l) := by
  rw [M_p_Minimal, M_p_Minimal_L2_eq l [] (by omega)]
  exact min2 vars hv l hl hn hc l 0 [] rfl (Nat.le_refl _)
theorem sortLL_mem (x : List Fact) (l : List (List Fact)) : x ∈ sortLL l ↔ x ∈ l := (List.mergeSort_perm l _).mem_iff
-- Regress
theorem reg1 (z : List (List Fact)) (v : List (List Fact)) (hv : ∀ x ∈ v, x.length ≤ 100000) (hl : v.length ≤ 100000) : ∀ (m n : Nat), n + m = v.length → Rn (M_g_Regress_L1_B z) (M_g_Regress_L1_E z) m n v = some (v, Er.nil)
  | 0, n, h => by rw [Rn, M_g_Regress_L1_E, grd_t (by omega)]
  | m + 1, n, h => by
    obtain ⟨y, hy, -⟩ := drop_at (l := v) (n := n) (by omega)
    have hyl := hv y (List.mem_of_getElem? hy)
    obtain ⟨b1, b2⟩ := List.getElem?_eq_some_iff.1 hy
    have hs : v.set n y = v := by rw [← b2, List.set_getElem_self]
    rw [Rn, M_g_Regress_L1_B, Int.toNat_natCast, ixn_at hy, M_cloneF, grd_t (by omega), ob1_some, ixn_at hy, grd_t (by omega), grd_t (by omega), grd_t (by omega), hs]
    exact reg1 z v hv hl m (n + 1) (by omega)
theorem regG_prop {vars : List Int} {o : GOp} (hp : WhenP vars o.Effs) : ∀ {p : List Fact} {l j : List (List Fact)}, (∀ f ∈ p, propF vars (-1) [f] = true) → PropL vars l → l.Nodup → l.length ≤ 1024 → regG vars o p l = some j → PropL vars j ∧ j.Nodup ∧ j.length ≤ 1024
  | [], l, j, _, h1, h2, h3, h => by rw [regG] at h; obtain rfl := Option.some.inj h; exact ⟨h1, h2, h3⟩
  | f :: r, l, j, hf, h1, h2, h3, h => by
    rw [regG] at h
    cases hc : casesO vars o f with
    | none => rw [hc] at h; cases h
    | some c =>
      rw [hc, Option.bind_some] at h
      cases hj : capO (joinLL l c) with
      | none => rw [hj] at h; cases h
      | some m =>
        rw [hj, Option.bind_some] at h
        obtain ⟨rfl, hm⟩ := capO_some hj
        exact regG_prop hp (fun u hu => hf u (List.mem_cons_of_mem _ hu)) (joinLL_prop h1 (casesO_prop hp (hf f (List.mem_cons_self ..)) hc).1) (joinLL_nodup _ _) hm h
def regO (vars : List Int) (o : GOp) (p : List Fact) : Option (List (List Fact)) := (regG vars o p [o.Pre]).map fun l => sortLL (minF l)
theorem pre_prop {t : GTask} (hgood : goodF t = true) {p : List Fact} (hpf : propF t.Vars (-1) p = true) {o : GOp} (ho : o ∈ t.Ops) {l : List (List Fact)} (h : regG t.Vars o p [o.Pre] = some l) : PropL t.Vars l ∧ l.Nodup ∧ l.length ≤ 1024 := by
  have oo := good_op hgood ho
  exact regG_prop oo.when (fun f hf => propF_one hpf hf) (fun x hx => by rw [List.mem_singleton.1 hx]; exact oo.pre) (by simp) (by simp) h
theorem regress_eq (t : GTask) (ht : ShT t) (hgood : goodF t = true) (p : List Fact) (hpf : propF t.Vars (-1) p = true) (g : Nat) (hg : 70 ≤ g) (op : Int) (o : GOp) (h0 : 0 ≤ op) (hop : t.Ops[op.toNat]? = some o) :
    M_g_Regress g t op p = some (resR (regO t.Vars o p)) := by
  have ok := good_ok hgood
  rw [M_g_Regress, preimage_eq t ht hgood p hpf g hg op o h0 hop, ob2_res, regO]
  cases hr : regG t.Vars o p [o.Pre] with
  | none => rfl
  | some l =>
    obtain ⟨l1, l2, l3⟩ := pre_prop hgood hpf (List.mem_of_getElem? hop) hr
    have hml : (minF l).length ≤ 1024 := Nat.le_trans (List.length_filter_le _ _) l3
    have hmp : ∀ y ∈ minF l, y.length ≤ 64 := fun y hy => prop_len ok.len (l1 y (List.mem_filter.1 hy).1)
    show ob1 _ _ = _
    rw [minimal_eq t.Vars ok.len l l1 l2 (by omega), ob1_some, M_sortL, grd_t (by omega), grd_t (fun y hy => by have := hmp y hy; omega), ob1_some, grd_t (sortLL_length _), M_g_Regress_L1_eq (minF l) _ (m := (minF l).length) rfl (by omega)]
    exact reg1 (minF l) (sortLL (minF l)) (fun x hx => by have := hmp x ((sortLL_mem x _).1 hx); omega) (by rw [sortLL_length]; omega) _ 0 (by rw [sortLL_length]; omega)
end Go.Proofs.YtohjegemooakpaaGreat.Am
/- Plain laws: stratagembase.Facts, Is, Holds, Small. -/
namespace Go.Proofs.YtohjegemooakpaaGreat.Am
open Go.RowKit
theorem fact_beq (x y : Fact) : (x.1 == y.1 && x.2 == y.2) = decide (x = y) := by
  rw [Bool.eq_iff_iff, Bool.and_eq_true, beq_iff_eq, beq_iff_eq, decide_eq_true_iff, Prod.ext_iff]
theorem num_no (z : Int) : M_b_Num (.no z) = some z := rfl
/-- a state has all facts of a list -/
def hold1 (s : List Int) (x : Fact) : Bool := decide (0 ≤ x.1) && (decide (x.1 < s.length) && s.getD x.1.toNat 0 == x.2)
def holdsF (s : List Int) (l : List Fact) : Bool := l.all (hold1 s)
/-- the number of states, capped -/
def manyF (most : Int) : List Int → Int → Int
  | [], n => n
  | k :: r, n => if n * min (max k 0) (most + 1) > most then most + 1 else manyF most r (n * min (max k 0) (most + 1))
theorem many_loop (most : Int) (hm : 0 ≤ most ∧ most ≤ 1048576) (vars : List Int) : ∀ (r : List Int) (i n : Int), 0 ≤ n → n ≤ 1048576 → Rg (M_b_Many_L1_B vars most) (M_b_Many_L1_E vars most) r i n = some (manyF most r n)
  | [], i, n, _, _ => rfl
  | k :: r, i, n, h0, h1 => by
    have hb : 0 ≤ min (max k 0) (most + 1) ∧ min (max k 0) (most + 1) ≤ 1048577 := by omega
    have h2 : 0 ≤ n * min (max k 0) (most + 1) := Int.mul_nonneg h0 hb.1
    have h3 : n * min (max k 0) (most + 1) ≤ 1048576 * 1048577 := Int.mul_le_mul h1 hb.2 hb.1 (by decide)
    rw [Rg, M_b_Many_L1_B, ixv, w64 (z := most + 1) (by omega) (by omega), w64 (z := n * min (max k 0) (most + 1)) (by omega) (by omega), sel_dec, manyF]
    by_cases h : n * min (max k 0) (most + 1) > most
    · rw [if_pos h, if_pos h]
    · rw [if_neg h, if_neg h]
      exact many_loop most hm vars r _ _ h2 (by omega)
theorem many_eq (vars : List Int) (hv : Sh vars) (most : Int) (hm : 0 ≤ most ∧ most ≤ 1048576) : M_b_Many vars most = some (manyF most vars 1) := by
  rw [M_b_Many, M_b_Many_L1_eq vars most _ hv.lt, many_loop most hm vars vars 0 1 (by decide) (by decide)]
def smallF (t : GTask) : Bool := decide (t.Vars.length ≤ 12 ∧ t.Ops.length ≤ 20) && (t.Ops.all (fun o => decide (o.Effs.length ≤ 8)) && (goodF t && decide (manyF 512 t.Vars 1 ≤ 512)))
theorem small_eq (t : GTask) (ht : ShT t) : M_b_Small t = some (smallF t) := by
  rw [M_b_Small, List.length_map, List.length_map, sel_dec, sel_dec, smallF]
  by_cases h1 : t.Vars.length ≤ 12
  · rw [if_neg (by omega)]
    by_cases h2 : t.Ops.length ≤ 20
    · have e := M_b_Small_L1_eq t ht.ops.lt
      rw [List.length_map] at e
      rw [if_neg (by omega), decide_eq_true ⟨h1, h2⟩, Bool.true_and, ob1_some, osum_inl, e, rg_all (p := fun o : GOp => decide (o.Effs.length ≤ 8)) (c := some (.inr false))]
      · cases t.Ops.all (fun o => decide (o.Effs.length ≤ 8)) with
        | false => rfl
        | true =>
          rw [if_pos rfl, M_b_Small_L1_E, ob1_some, osum_inl, good_eq t ht, ob1_some, Bool.true_and]
          cases goodF t with
          | false => rfl
          | true => rw [sel_tt, many_eq _ ht.vars 512 (by decide), ob1_some, Bool.true_and]
      · intro o _ i rc
        rw [M_b_Small_L1_B, ixv, sel_dec, List.length_map]
        by_cases h : o.Effs.length ≤ 8
        · rw [if_neg (by omega), decide_eq_true h, if_pos rfl]
        · rw [if_pos (by omega), decide_eq_false h, if_neg (by decide)]
    · rw [if_pos (by omega), decide_eq_false (fun h => h2 h.2)]; rfl
  · rw [if_pos (by omega), decide_eq_false (fun h => h1 h.1)]; rfl
theorem small_good {t : GTask} (h : smallF t = true) : goodF t = true ∧ t.Vars.length ≤ 12 ∧ t.Ops.length ≤ 20 := by
  unfold smallF at h
  simp only [Bool.and_eq_true, decide_eq_true_iff] at h
  exact ⟨h.2.2.1, h.1.1, h.1.2⟩
-- joins of given lists
end Go.Proofs.YtohjegemooakpaaGreat.Am
/- Plain law: what a regression means for the states. -/
namespace Go.Proofs.YtohjegemooakpaaGreat.Am
open Go.RowKit
/-- a state: a value in range for each variable -/
structure StP (vars s : List Int) : Prop where
  len : s.length = vars.length
  rng : ∀ v : Nat, v < vars.length → 0 ≤ s.getD v 0 ∧ s.getD v 0 < vars.getD v 0
def some1 (s : List Int) (l : List (List Fact)) : Prop := ∃ z ∈ l, holdsF s z = true
theorem hold1_iff {s : List Int} {x : Fact} : hold1 s x = true ↔ 0 ≤ x.1 ∧ x.1 < s.length ∧ s.getD x.1.toNat 0 = x.2 := by
  simp only [hold1, Bool.and_eq_true, decide_eq_true_iff, beq_iff_eq]
theorem holdsF_iff {s : List Int} {l : List Fact} : holdsF s l = true ↔ ∀ x ∈ l, hold1 s x = true := by rw [holdsF, List.all_eq_true]
theorem holds_joinO {s : List Int} {a b z : List Fact} (h : joinO a b = some z) : holdsF s z = true ↔ holdsF s a = true ∧ holdsF s b = true := by
  rw [holdsF_iff, holdsF_iff, holdsF_iff]
  have hm := (joinO_some h).2
  constructor
  · intro hz; exact ⟨fun x hx => hz x ((hm x).2 (Or.inl hx)), fun x hx => hz x ((hm x).2 (Or.inr hx))⟩
  · rintro ⟨h1, h2⟩ x hx
    rcases (hm x).1 hx with h | h
    · exact h1 x h
    · exact h2 x h
theorem holds_compat {s : List Int} {l : List Fact} (h : holdsF s l = true) : Compat l := fun x hx y hy e => by
  have h1 := hold1_iff.1 (holdsF_iff.1 h x hx)
  have h2 := hold1_iff.1 (holdsF_iff.1 h y hy)
  rw [← h1.2.2, ← h2.2.2, e]
theorem some_joinLL {vars s : List Int} {a b : List (List Fact)} (ha : PropL vars a) (hb : PropL vars b) : some1 s (joinLL a b) ↔ some1 s a ∧ some1 s b := by
  constructor
  · rintro ⟨z, hz, hs⟩
    obtain ⟨x, hx, y, hy, hj⟩ := (joinLL_mem z a b).1 hz
    obtain ⟨h1, h2⟩ := (holds_joinO hj).1 hs
    exact ⟨⟨x, hx, h1⟩, ⟨y, hy, h2⟩⟩
  · rintro ⟨⟨x, hx, h1⟩, ⟨y, hy, h2⟩⟩
    cases hj : joinO x y with
    | none =>
      refine absurd (holds_compat (s := s) ?_) (joinO_none (propF_vF' (ha x hx)) (propF_vF' (hb y hy)) hj)
      rw [holdsF_iff]
      intro u hu
      rcases List.mem_append.1 hu with h | h
      · exact holdsF_iff.1 h1 u h
      · exact holdsF_iff.1 h2 u h
    | some z => exact ⟨z, (joinLL_mem z a b).2 ⟨x, hx, y, hy, hj⟩, (holds_joinO hj).2 ⟨h1, h2⟩⟩
theorem some_silF {vars s : List Int} (hs : StP vars s) {w : List Fact} (hw : propF vars (-1) w = true) : some1 s (silF vars w) ↔ ¬ holdsF s w = true := by
  obtain ⟨hv, hr⟩ := (propF_iff vars w (-1)).1 hw
  have hn := ((vF_iff' w).1 hv).1
  constructor
  · rintro ⟨z, hz, h⟩ hw'
    obtain ⟨f, hf, y, h1, h2, hne, rfl⟩ := silF_mem.1 hz
    have e1 := (hold1_iff.1 (holdsF_iff.1 h _ (List.mem_singleton.2 rfl))).2.2
    have e2 := (hold1_iff.1 (holdsF_iff.1 hw' f hf)).2.2
    exact hne (e1.symm.trans e2)
  · intro hw'
    rw [holdsF_iff] at hw'
    obtain ⟨f, hf, hnf⟩ : ∃ f ∈ w, ¬ hold1 s f = true := by
      refine Classical.byContradiction fun hno => hw' fun x hx => Classical.byContradiction fun hx' => hno ⟨x, hx, hx'⟩
    have h1 := hn f hf
    have h2 := hr f hf
    have hlen := hs.len
    obtain ⟨g1, g2⟩ := hs.rng f.1.toNat (by omega)
    refine ⟨[(f.1, s.getD f.1.toNat 0)], silF_mem.2 ⟨f, hf, _, g1, by omega, fun e => hnf (hold1_iff.2 ⟨h1.1, by omega, e⟩), rfl⟩, ?_⟩
    rw [holdsF_iff]
    intro x hx
    rw [List.mem_singleton.1 hx]
    exact hold1_iff.2 ⟨h1.1, by show f.1 < _; omega, rfl⟩
/-- no effect that sets another value fires -/
def quietP (s : List Int) (f : Fact) (es : List GEffect) : Prop := ∀ e ∈ es, e.Val ≠ f.2 → ¬ holdsF s e.When = true
theorem some_quietG {vars s : List Int} (hs : StP vars s) {f : Fact} : ∀ {es : List GEffect} {l j : List (List Fact)}, WhenP vars es → PropL vars l → quietG vars f es l = some j → (some1 s j ↔ some1 s l ∧ quietP s f es)
  | [], l, j, _, _, h => by
    rw [quietG] at h; obtain rfl := Option.some.inj h
    exact ⟨fun h => ⟨h, fun _ h => nomatch h⟩, fun h => h.1⟩
  | e :: r, l, j, he, hl, h => by
    have he' : WhenP vars r := fun u hu => he u (List.mem_cons_of_mem _ hu)
    have hq0 : quietP s f (e :: r) ↔ (e.Val ≠ f.2 → ¬ holdsF s e.When = true) ∧ quietP s f r := by
      unfold quietP
      constructor
      · intro h; exact ⟨h e (List.mem_cons_self ..), fun u hu => h u (List.mem_cons_of_mem _ hu)⟩
      · rintro ⟨h1, h2⟩ u hu
        rcases List.mem_cons.1 hu with rfl | hu
        · exact h1
        · exact h2 u hu
    rw [hq0]
    rw [quietG] at h
    split at h
    · rename_i hv
      rw [some_quietG hs he' hl h]
      constructor
      · rintro ⟨h1, h2⟩; exact ⟨h1, fun hn => absurd hv hn, h2⟩
      · rintro ⟨h1, -, h2⟩; exact ⟨h1, h2⟩
    · rename_i hv
      have hw := he e (List.mem_cons_self ..)
      cases hq : capO (silF vars e.When) with
      | none => rw [hq] at h; cases h
      | some q =>
        rw [hq, Option.bind_some] at h
        cases hj : capO (joinLL l q) with
        | none => rw [hj] at h; cases h
        | some m =>
          rw [hj, Option.bind_some] at h
          obtain ⟨rfl, -⟩ := capO_some hq
          obtain ⟨rfl, -⟩ := capO_some hj
          have hsp := silF_prop hw
          rw [some_quietG hs he' (joinLL_prop hl hsp) h, some_joinLL hl hsp, some_silF hs hw]
          constructor
          · rintro ⟨⟨h1, h2⟩, h3⟩; exact ⟨h1, fun _ => h2, h3⟩
          · rintro ⟨h1, h2, h3⟩; exact ⟨⟨h1, h2 hv⟩, h3⟩
theorem some_foldN {s : List Int} {l out : List (List Fact)} : some1 s (l.foldl addN out) ↔ some1 s out ∨ some1 s l := by
  unfold some1
  constructor
  · rintro ⟨z, hz, h⟩
    rcases (foldN_mem z l out).1 hz with h' | h'
    · exact Or.inl ⟨z, h', h⟩
    · exact Or.inr ⟨z, h', h⟩
  · rintro (⟨z, hz, h⟩ | ⟨z, hz, h⟩)
    · exact ⟨z, (foldN_mem z l out).2 (Or.inl hz), h⟩
    · exact ⟨z, (foldN_mem z l out).2 (Or.inr hz), h⟩
/-- the value of a variable after the effects on it -/
def finF (s : List Int) : List GEffect → Int → Int
  | [], a => a
  | e :: r, a => finF s r (if holdsF s e.When = true then e.Val else a)
theorem some_one {s : List Int} {x : List Fact} : some1 s [x] ↔ holdsF s x = true := by
  unfold some1
  constructor
  · rintro ⟨z, hz, h⟩; rw [List.mem_singleton.1 hz] at h; exact h
  · intro h; exact ⟨x, List.mem_singleton.2 rfl, h⟩
theorem some_casesG {vars s : List Int} (hs : StP vars s) {f : Fact} : ∀ {es : List GEffect} {out : List (List Fact)}, WhenP vars es → casesG vars f es = some out → ∀ a : Int, (finF s es a = f.2 ↔ some1 s out ∨ (a = f.2 ∧ quietP s f es))
  | [], out, _, h, a => by
    rw [casesG] at h; obtain rfl := Option.some.inj h
    rw [finF]
    constructor
    · intro h; exact Or.inr ⟨h, fun _ h => nomatch h⟩
    · rintro (⟨z, hz, -⟩ | h)
      · cases hz
      · exact h.1
  | e :: r, out, he, h, a => by
    have he' : WhenP vars r := fun u hu => he u (List.mem_cons_of_mem _ hu)
    have hq0 : quietP s f (e :: r) ↔ (e.Val ≠ f.2 → ¬ holdsF s e.When = true) ∧ quietP s f r := by
      unfold quietP
      constructor
      · intro h; exact ⟨h e (List.mem_cons_self ..), fun u hu => h u (List.mem_cons_of_mem _ hu)⟩
      · rintro ⟨h1, h2⟩ u hu
        rcases List.mem_cons.1 hu with rfl | hu
        · exact h1
        · exact h2 u hu
    rw [casesG] at h
    cases hr : casesG vars f r with
    | none => rw [hr] at h; cases h
    | some o1 =>
      rw [hr, Option.bind_some] at h
      rw [finF, some_casesG hs he' hr, hq0]
      split at h
      · rename_i hv
        cases hq : quietG vars f r [e.When] with
        | none => rw [hq] at h; cases h
        | some q =>
          rw [hq, Option.map_some] at h
          obtain rfl := Option.some.inj h
          rw [some_foldN, some_quietG hs he' (fun x hx => by rw [List.mem_singleton.1 hx]; exact he e (List.mem_cons_self ..)) hq, some_one]
          by_cases hf : holdsF s e.When = true
          · simp only [hf, if_true, hv]
            constructor
            · rintro (h | ⟨-, h⟩)
              · exact Or.inl (Or.inl h)
              · exact Or.inl (Or.inr ⟨trivial, h⟩)
            · rintro ((h | ⟨-, h⟩) | ⟨-, -, h⟩)
              · exact Or.inl h
              · exact Or.inr ⟨trivial, h⟩
              · exact Or.inr ⟨trivial, h⟩
          · simp only [hf, hv]
            constructor
            · rintro (h | ⟨h1, h2⟩)
              · exact Or.inl (Or.inl h)
              · exact Or.inr ⟨by simpa using h1, fun h => absurd rfl h, h2⟩
            · rintro ((h | ⟨h, -⟩) | ⟨h1, -, h2⟩)
              · exact Or.inl h
              · cases h
              · exact Or.inr ⟨by simpa using h1, h2⟩
      · rename_i hv
        obtain rfl := Option.some.inj h
        by_cases hf : holdsF s e.When = true
        · rw [if_pos hf]
          constructor
          · rintro (h | ⟨h, -⟩)
            · exact Or.inl h
            · exact absurd h hv
          · rintro (h | ⟨-, h, -⟩)
            · exact Or.inl h
            · exact absurd hf (h hv)
        · rw [if_neg hf]
          constructor
          · rintro (h | ⟨h1, h2⟩)
            · exact Or.inl h
            · exact Or.inr ⟨h1, fun _ => hf, h2⟩
          · rintro (h | ⟨h1, -, h2⟩)
            · exact Or.inl h
            · exact Or.inr ⟨h1, h2⟩
/-- the value of the fact's variable after an operator -/
def valF (s : List Int) (o : GOp) (v : Int) : Int := finF s (o.Effs.filter (fun e => e.Var == v)) (s.getD v.toNat 0)
theorem some_casesO {vars s : List Int} (hs : StP vars s) {o : GOp} (hw : WhenP vars o.Effs) {f : Fact} (hf : propF vars (-1) [f] = true) {c : List (List Fact)} (h : casesO vars o f = some c) : some1 s c ↔ valF s o f.1 = f.2 := by
  unfold casesO at h
  unfold valF
  have hw' : WhenP vars (o.Effs.filter (fun e => e.Var == f.1)) := fun e he => hw e (List.mem_filter.1 he).1
  generalize o.Effs.filter (fun e => e.Var == f.1) = es at h hw'
  unfold casesE at h
  cases hg : casesG vars f es with
  | none => rw [hg] at h; cases h
  | some out =>
    rw [hg, Option.bind_some] at h
    cases hq : quietG vars f es [[f]] with
    | none => rw [hq] at h; cases h
    | some q =>
      rw [hq, Option.map_some, Option.bind_some] at h
      obtain ⟨rfl, -⟩ := capO_some h
      have hfp : PropL vars [[f]] := fun x hx => by rw [List.mem_singleton.1 hx]; exact hf
      rw [some_casesG hs hw' hg, some_foldN, some_quietG hs hw' hfp hq, some_one]
      obtain ⟨hv, hr⟩ := (propF_iff vars _ (-1)).1 hf
      have hn := ((vF_iff' _).1 hv).1 f (List.mem_singleton.2 rfl)
      have hr' := hr f (List.mem_singleton.2 rfl)
      have hlen := hs.len
      have e : holdsF s [f] = true ↔ s.getD f.1.toNat 0 = f.2 := by
        rw [holdsF_iff]
        constructor
        · intro h; exact (hold1_iff.1 (h f (List.mem_singleton.2 rfl))).2.2
        · intro h x hx; rw [List.mem_singleton.1 hx]; exact hold1_iff.2 ⟨hn.1, by omega, h⟩
      rw [e]
theorem some_regG {vars s : List Int} (hs : StP vars s) {o : GOp} (hw : WhenP vars o.Effs) : ∀ {p : List Fact} {l j : List (List Fact)}, (∀ f ∈ p, propF vars (-1) [f] = true) → PropL vars l → regG vars o p l = some j → (some1 s j ↔ some1 s l ∧ ∀ f ∈ p, valF s o f.1 = f.2)
  | [], l, j, _, _, h => by
    rw [regG] at h; obtain rfl := Option.some.inj h
    exact ⟨fun h => ⟨h, fun _ h => nomatch h⟩, fun h => h.1⟩
  | f :: r, l, j, hf, hl, h => by
    rw [regG] at h
    have hf1 := hf f (List.mem_cons_self ..)
    cases hc : casesO vars o f with
    | none => rw [hc] at h; cases h
    | some c =>
      rw [hc, Option.bind_some] at h
      cases hj : capO (joinLL l c) with
      | none => rw [hj] at h; cases h
      | some m =>
        rw [hj, Option.bind_some] at h
        obtain ⟨rfl, -⟩ := capO_some hj
        have hcp := (casesO_prop hw hf1 hc).1
        rw [some_regG hs hw (fun u hu => hf u (List.mem_cons_of_mem _ hu)) (joinLL_prop hl hcp) h, some_joinLL hl hcp, some_casesO hs hw hf1 hc]
        constructor
        · rintro ⟨⟨h1, h2⟩, h3⟩
          refine ⟨h1, fun u hu => ?_⟩
          rcases List.mem_cons.1 hu with rfl | hu
          · exact h2
          · exact h3 u hu
        · rintro ⟨h1, h2⟩
          exact ⟨⟨h1, h2 f (List.mem_cons_self ..)⟩, fun u hu => h2 u (List.mem_cons_of_mem _ hu)⟩
/-- the minimal elements cover the same states -/
theorem below_min {l : List (List Fact)} (hl : ∀ x ∈ l, Asc x) : ∀ (n : Nat) (z : List Fact), z.length ≤ n → z ∈ l → ∃ x ∈ minF l, ∀ w ∈ x, w ∈ z
  | 0, z, hn, hz => by
    refine ⟨z, List.mem_filter.2 ⟨hz, ?_⟩, fun _ h => h⟩
    rw [keepF, List.all_eq_true]
    intro y hy
    obtain rfl : z = [] := List.length_eq_zero_iff.1 (by omega)
    cases y with
    | nil => simp
    | cons a b => simp [subF]
  | n + 1, z, hn, hz => by
    by_cases hk : keepF l z = true
    · exact ⟨z, List.mem_filter.2 ⟨hz, hk⟩, fun _ h => h⟩
    · rw [keepF, List.all_eq_true] at hk
      obtain ⟨y, hy, hyz⟩ : ∃ y ∈ l, (subF y z && decide (y ≠ z)) = true := by
        refine Classical.byContradiction fun hno => hk fun y hy => ?_
        cases h : (subF y z && decide (y ≠ z)) with
        | false => rfl
        | true => exact absurd ⟨y, hy, h⟩ hno
      rw [Bool.and_eq_true, decide_eq_true_iff] at hyz
      have hs := subF_iff.1 hyz.1
      obtain ⟨h1, h2⟩ := sub_len (hl z hz) (hl y hy) hs
      have : y.length ≠ z.length := fun e => hyz.2 (h2 e)
      obtain ⟨x, hx, hxy⟩ := below_min hl n y (by omega) hy
      exact ⟨x, hx, fun w hw => hs w (hxy w hw)⟩
theorem some_min {s : List Int} {l : List (List Fact)} (hl : ∀ x ∈ l, Asc x) : some1 s (sortLL (minF l)) ↔ some1 s l := by
  constructor
  · rintro ⟨z, hz, h⟩
    exact ⟨z, (List.mem_filter.1 ((sortLL_mem z _).1 hz)).1, h⟩
  · rintro ⟨z, hz, h⟩
    obtain ⟨x, hx, hxz⟩ := below_min hl z.length z (Nat.le_refl _) hz
    exact ⟨x, (sortLL_mem x _).2 hx, holdsF_iff.2 fun w hw => holdsF_iff.1 h w (hxz w hw)⟩
/-- what a regression means -/
theorem some_regO {t : GTask} (hgood : goodF t = true) {o : GOp} (ho : o ∈ t.Ops) {s : List Int} (hs : StP t.Vars s) {p : List Fact} (hp : propF t.Vars (-1) p = true) {l : List (List Fact)} (h : regO t.Vars o p = some l) : some1 s l ↔ holdsF s o.Pre = true ∧ ∀ f ∈ p, valF s o f.1 = f.2 := by
  unfold regO at h
  cases hr : regG t.Vars o p [o.Pre] with
  | none => rw [hr] at h; cases h
  | some m =>
    rw [hr, Option.map_some] at h
    obtain rfl := Option.some.inj h
    have hm := (pre_prop hgood hp ho hr).1
    have oo := good_op hgood ho
    rw [some_min (fun x hx => ((vF_iff' x).1 (propF_vF' (hm x hx))).2), some_regG hs oo.when (fun f hf => propF_one hp hf) (fun x hx => by rw [List.mem_singleton.1 hx]; exact oo.pre) hr, some_one]
end Go.Proofs.YtohjegemooakpaaGreat.Am
/- Plain laws: stratagembase.States, Apply. -/
namespace Go.Proofs.YtohjegemooakpaaGreat.Am
open Go.RowKit
def extF (s : List Int) : Nat → Int → List (List Int)
  | 0, _ => []
  | m + 1, i => (s ++ [i]) :: extF s m (i + 1)
def statesG : List Int → List (List Int) → List (List Int)
  | [], out => out
  | k :: r, out => statesG r (out.flatMap fun s => extF s k.toNat 0)
theorem extF_mem (s z : List Int) : ∀ (m : Nat) (i : Int), z ∈ extF s m i ↔ ∃ x : Int, i ≤ x ∧ x < i + m ∧ z = s ++ [x]
  | 0, i => by rw [extF]; constructor; exact (nofun); rintro ⟨y, h1, h2, -⟩; omega
  | m + 1, i => by
    rw [extF, List.mem_cons, extF_mem s z m]
    constructor
    · rintro (h | ⟨x, h1, h2, h3⟩)
      · exact ⟨i, Int.le_refl _, by omega, h⟩
      · exact ⟨x, by omega, by omega, h3⟩
    · rintro ⟨x, h1, h2, h3⟩
      rcases Int.lt_or_eq_of_le h1 with h | rfl
      · exact Or.inr ⟨x, by omega, by omega, h3⟩
      · exact Or.inl h3
theorem statesG_mem : ∀ (r : List Int) (out : List (List Int)) (z : List Int), z ∈ statesG r out ↔ ∃ s ∈ out, ∃ t, z = s ++ t ∧ stateF r t = true
  | [], out, z => by
    rw [statesG]
    constructor
    · intro h; exact ⟨z, h, [], (List.append_nil z).symm, rfl⟩
    · rintro ⟨s, hs, t, rfl, ht⟩
      cases t with
      | nil => rw [List.append_nil]; exact hs
      | cons a b => simp [stateF] at ht
  | k :: r, out, z => by
    rw [statesG, statesG_mem r]
    constructor
    · rintro ⟨s, hs, t, rfl, ht⟩
      obtain ⟨u, hu, hsu⟩ := List.mem_flatMap.1 hs
      obtain ⟨x, h1, h2, rfl⟩ := (extF_mem u s _ 0).1 hsu
      refine ⟨u, hu, x :: t, by rw [List.append_assoc, List.singleton_append], ?_⟩
      simp only [stateF, ht, Bool.and_true, decide_eq_true_iff]
      omega
    · rintro ⟨s, hs, t, rfl, ht⟩
      cases t with
      | nil => simp [stateF] at ht
      | cons x t =>
        simp only [stateF, Bool.and_eq_true, decide_eq_true_iff] at ht
        refine ⟨s ++ [x], List.mem_flatMap.2 ⟨s, hs, (extF_mem s _ _ 0).2 ⟨x, by omega, by omega, rfl⟩⟩, t, by rw [List.append_assoc, List.singleton_append], ?_⟩
        first | exact ht.2 | exact ht.2.2
/-- all states of a small task -/
def allF (t : GTask) : List (List Int) := statesG t.Vars [[]]
theorem allF_mem (t : GTask) (s : List Int) : s ∈ allF t ↔ stateF t.Vars s = true := by
  rw [allF, statesG_mem]
  constructor
  · rintro ⟨u, hu, v, rfl, h⟩
    rw [List.mem_singleton.1 hu, List.nil_append]; exact h
  · intro h; exact ⟨[], List.mem_singleton.2 rfl, s, rfl, h⟩
theorem stateF_st : ∀ {v s : List Int}, stateF v s = true → StP v s
  | [], [], _ => ⟨rfl, fun i h => by simp at h⟩
  | [], _ :: _, h => by simp [stateF] at h
  | _ :: _, [], h => by simp [stateF] at h
  | n :: r, x :: s, h => by
    simp only [stateF, Bool.and_eq_true, decide_eq_true_iff] at h
    have ih := stateF_st h.2
    refine ⟨by rw [List.length_cons, List.length_cons, ih.len], fun i hi => ?_⟩
    cases i with
    | zero => simpa using h.1
    | succ i => simpa using ih.rng i (by simpa using hi)
def applyG (s : List Int) : List GEffect → List Int → List Int
  | [], v => v
  | e :: r, v => applyG s r (if holdsF s e.When = true then v.set e.Var.toNat e.Val else v)
theorem applyG_get (s : List Int) (x : Int) (hx : 0 ≤ x) : ∀ (r : List GEffect) (v : List Int), (∀ e ∈ r, 0 ≤ e.Var ∧ e.Var < v.length) → (applyG s r v).getD x.toNat 0 = finF s (r.filter (fun e => e.Var == x)) (v.getD x.toNat 0)
  | [], v, _ => rfl
  | e :: r, v, he => by
    obtain ⟨h2, h3⟩ := he e (List.mem_cons_self ..)
    have he' : ∀ u ∈ r, 0 ≤ u.Var ∧ u.Var < v.length := fun u hu => he u (List.mem_cons_of_mem _ hu)
    rw [applyG]
    have hset : ∀ w, (v.set e.Var.toNat w).length = v.length := fun w => List.length_set
    by_cases hv : e.Var = x
    · rw [List.filter_cons_of_pos (by simp [hv]), finF]
      by_cases hf : holdsF s e.When = true
      · rw [if_pos hf, if_pos hf, applyG_get s x hx r _ (by rw [hset]; exact he')]
        congr 1
        rw [← hv, List.getD_eq_getElem?_getD, List.getElem?_set_self (by omega), Option.getD_some]
      · rw [if_neg hf, if_neg hf, applyG_get s x hx r v he']
    · rw [List.filter_cons_of_neg (by simp [hv])]
      by_cases hf : holdsF s e.When = true
      · rw [if_pos hf, applyG_get s x hx r _ (by rw [hset]; exact he')]
        congr 1
        rw [List.getD_eq_getElem?_getD, List.getElem?_set_ne (by omega), ← List.getD_eq_getElem?_getD]
      · rw [if_neg hf, applyG_get s x hx r v he']
theorem applyG_len (s : List Int) : ∀ (r : List GEffect) (v : List Int), (applyG s r v).length = v.length
  | [], v => rfl
  | e :: r, v => by rw [applyG, applyG_len s r]; split <;> simp
theorem good_eff {t : GTask} (h : goodF t = true) {o : GOp} (ho : o ∈ t.Ops) {e : GEffect} (he : e ∈ o.Effs) : 0 ≤ e.Var ∧ e.Var < t.Vars.length ∧ 0 ≤ e.Val ∧ e.Val < t.Vars.getD e.Var.toNat 0 := by
  unfold goodF at h
  simp only [Bool.and_eq_true, List.all_eq_true] at h
  have h1 := h.2.2.2.2 o ho
  unfold opF at h1
  simp only [Bool.and_eq_true, decide_eq_true_iff, List.all_eq_true] at h1
  have h2 := h1.2.2.2 e he
  unfold effF at h2
  have h3 := (Bool.and_eq_true _ _ ▸ h2).2
  obtain ⟨hv, hr⟩ := (propF_iff t.Vars _ (-1)).1 h3
  have hn := ((vF_iff' _).1 hv).1 _ (List.mem_singleton.2 rfl)
  have hr' := hr _ (List.mem_singleton.2 rfl)
  exact ⟨hn.1, hr'.1, hn.2, hr'.2⟩
/-- the successor of a state; none if the operator is not applicable -/
def nextF (s : List Int) (o : GOp) : List Int := applyG s o.Effs s
theorem holds_next {t : GTask} (hgood : goodF t = true) {s : List Int} (hs : StP t.Vars s) {o : GOp} (ho : o ∈ t.Ops) {p : List Fact} (hp : propF t.Vars (-1) p = true) : holdsF (nextF s o) p = true ↔ ∀ f ∈ p, valF s o f.1 = f.2 := by
  obtain ⟨hv, hr⟩ := (propF_iff t.Vars p (-1)).1 hp
  have hn := ((vF_iff' p).1 hv).1
  have hlen := hs.len
  rw [holdsF_iff]
  have key : ∀ f ∈ p, (hold1 (nextF s o) f = true ↔ valF s o f.1 = f.2) := fun f hf => by
    have h1 := hn f hf
    have h2 := hr f hf
    rw [hold1_iff, nextF, applyG_get s f.1 h1.1 o.Effs s (fun e he => by have := good_eff hgood ho he; omega), applyG_len]
    constructor
    · intro h; exact h.2.2
    · intro h; exact ⟨h1.1, by omega, h⟩
  exact ⟨fun h f hf => (key f hf).1 (h f hf), fun h f hf => (key f hf).2 (h f hf)⟩
end Go.Proofs.YtohjegemooakpaaGreat.Am
/- Plain: stratagembase.Tame. -/
namespace Go.Proofs.YtohjegemooakpaaGreat.Am
open Go.RowKit
def condN (es : List GEffect) : Nat := (es.filter fun e => decide (0 < e.When.length)).length
theorem condN_le (es : List GEffect) : condN es ≤ es.length := List.length_filter_le _ _
theorem condN_cons (e : GEffect) (es : List GEffect) : condN (e :: es) = (if 0 < e.When.length then 1 else 0) + condN es := by
  unfold condN
  rw [List.filter_cons]
  by_cases h : 0 < e.When.length
  · rw [if_pos (decide_eq_true h), if_pos h, List.length_cons]; omega
  · rw [if_neg (by simpa using h), if_neg h]; omega
def twoF (es : List GEffect) : Bool := es.all fun e => decide (e.When.length ≤ 2)
theorem tame2 (o : GOp) : ∀ (r : List GEffect) (i : Int) (v : Nat), v + r.length ≤ 1000000 → Rg (M_b_Tame_L2_B o) (M_b_Tame_L2_E o) r i v = some (if twoF r = true then .inl ((v + condN r : Nat) : Int) else .inr false)
  | [], i, v, _ => rfl
  | e :: r, i, v, h => by
    rw [List.length_cons] at h
    rw [Rg, M_b_Tame_L2_B, ixv, sel_dec, sel_dec, List.length_map, twoF, List.all_cons, condN_cons]
    by_cases h1 : e.When.length > 2
    · rw [if_pos (by omega), decide_eq_false (by omega), Bool.false_and, if_neg (by decide)]
    · rw [if_neg (by omega), decide_eq_true (p := e.When.length ≤ 2) (by omega), Bool.true_and]
      by_cases h2 : 0 < e.When.length
      · rw [if_pos (by omega), if_pos h2, wrap_eq (by omega) (by omega), show ((v : Int) + 1) = ((v + 1 : Nat) : Int) from rfl, tame2 o r _ (v + 1) (by omega), Nat.add_assoc]; rfl
      · rw [if_neg (by omega), if_neg h2, tame2 o r _ v (by omega), Nat.zero_add]; rfl
def tameO (o : GOp) : Bool := twoF o.Effs && decide (condN o.Effs ≤ 3)
def tameF (t : GTask) : Bool := smallF t && (t.Vars.all (fun n => decide (2 ≤ n ∧ n ≤ 4)) && t.Ops.all tameO)
theorem tame_eq (t : GTask) (ht : ShT t) : M_b_Tame t = some (tameF t) := by
  rw [M_b_Tame, small_eq t ht, ob1_some, tameF]
  cases hs : smallF t with
  | false => rfl
  | true =>
    obtain ⟨hgood, hv, ho⟩ := small_good hs
    have e1 := M_b_Tame_L1_eq t (by omega)
    have e3 := M_b_Tame_L3_eq t (by omega)
    rw [Bool.not_true, sel_ff, e1, rg_all (p := fun n : Int => decide (2 ≤ n ∧ n ≤ 4)) (c := some (.inr false))]
    · cases t.Vars.all fun n => decide (2 ≤ n ∧ n ≤ 4) with
      | false => rfl
      | true =>
        rw [if_pos rfl, M_b_Tame_L1_E, ob1_some, osum_inl, e3, rg_all (p := tameO) (c := some false), M_b_Tame_L3_E]
        · cases t.Ops.all tameO <;> rfl
        · intro o hom i rc
          have hl := (good_op hgood hom).effs
          have e2 := M_b_Tame_L2_eq o 0 (show o.Effs.length < _ by omega)
          have e2' : Rg (M_b_Tame_L2_B o) (M_b_Tame_L2_E o) o.Effs 0 0 = _ := tame2 o o.Effs 0 0 (by omega)
          have hc := condN_le o.Effs
          rw [M_b_Tame_L3_B, ixv, e2, e2', Nat.zero_add, ob1_some, tameO]
          cases twoF o.Effs with
          | false => rfl
          | true =>
            rw [if_pos rfl, osum_inl, sel_dec, Bool.true_and]
            by_cases h3 : condN o.Effs ≤ 3
            · rw [if_neg (by omega), if_pos (decide_eq_true h3)]; rfl
            · rw [if_pos (by omega), if_neg (by simpa using h3)]; rfl
    · intro n _ i rc
      rw [M_b_Tame_L1_B, ixv, sel_dec, sel_dec]
      by_cases h1 : n < 2
      · rw [if_pos h1, if_neg (by rw [decide_eq_true_iff]; omega)]
      · rw [if_neg h1]
        by_cases h2 : n > 4
        · rw [if_pos h2, if_neg (by rw [decide_eq_true_iff]; omega)]
        · rw [if_neg h2, if_pos (by rw [decide_eq_true_iff]; omega)]
end Go.Proofs.YtohjegemooakpaaGreat.Am
/- Plain law: the number of the states as a product. -/
namespace Go.Proofs.YtohjegemooakpaaGreat.Am
open Go.RowKit
def prodN : List Int → Nat
  | [] => 1
  | k :: r => k.toNat * prodN r
end Go.Proofs.YtohjegemooakpaaGreat.Am
/- Plain law: a regression in a small task is never too large. -/
namespace Go.Proofs.YtohjegemooakpaaGreat.Am
open Go.RowKit
/-- lists of different partial states stay below the limit -/
structure Cap (vars : List Int) : Prop where
  cap : ∀ l : List (List Fact), l.Nodup → PropL vars l → l.length ≤ 1024
  len : vars.length ≤ 12
  dom : ∀ n ∈ vars, n ≤ 64
section
variable {vars : List Int} (hc : Cap vars)
include hc
end
/-- the tasks of these laws -/
def fitF (t : GTask) : Bool := tameF t && (decide (t.Ops.length ≤ 10) && decide (manyF 81 t.Vars 1 ≤ 81))
structure Fit (t : GTask) : Prop where
  good : goodF t = true
  cap : Cap t.Vars
  ops : t.Ops.length ≤ 10
  small : smallF t = true
  prod : prodN t.Vars ≤ 81
  dom : ∀ k ∈ t.Vars, 2 ≤ k ∧ k ≤ 4
end Go.Proofs.YtohjegemooakpaaGreat.Am
/- Plain: a state that has given proper facts. -/
namespace Go.Proofs.YtohjegemooakpaaGreat.Am
open Go.RowKit
/-- a state that has given proper facts -/
def fillF (x : List Fact) : Int → List Int → List Int
  | _, [] => []
  | i, _ :: r => max 0 (findF x i) :: fillF x (i + 1) r
theorem fill_state {vars : List Int} (hd : ∀ n ∈ vars, 1 ≤ n) {x : List Fact} (hx : ∀ f ∈ x, 0 ≤ f.2 ∧ 0 ≤ f.1 ∧ f.1 < vars.length ∧ f.2 < vars.getD f.1.toNat 0) : ∀ (r : List Int) (n : Nat), vars.drop n = r → stateF r (fillF x n r) = true
  | [], n, _ => rfl
  | k :: r, n, h => by
    obtain ⟨h1, h2, h3⟩ := drop_cons h
    have hk := hd k (List.mem_of_getElem? h1)
    rw [fillF, stateF, Bool.and_eq_true, decide_eq_true_iff]
    refine ⟨⟨by omega, ?_⟩, fill_state hd hx r (n + 1) h2⟩
    have : findF x n = -1 ∨ ∃ f ∈ x, f.1 = n ∧ findF x n = f.2 := by
      clear hx
      induction x with
      | nil => exact Or.inl rfl
      | cons f x ih =>
        rw [findF]
        by_cases e : f.1 = n
        · rw [if_pos e]; exact Or.inr ⟨f, List.mem_cons_self .., e, rfl⟩
        · rw [if_neg e]
          rcases ih with h | ⟨u, hu, h⟩
          · exact Or.inl h
          · exact Or.inr ⟨u, List.mem_cons_of_mem _ hu, h⟩
    rcases this with h | ⟨f, hf, e1, e2⟩
    · rw [h]; omega
    · have h4 := (hx f hf).2.2.2
      rw [e1, Int.toNat_natCast, List.getD_eq_getElem?_getD, h1, Option.getD_some] at h4
      omega
theorem fill_get (x : List Fact) : ∀ (r : List Int) (n : Int) (i : Nat), i < r.length → (fillF x n r).getD i 0 = max 0 (findF x (n + i))
  | [], n, i, h => by cases h
  | k :: r, n, 0, h => by simp [fillF]
  | k :: r, n, i + 1, h => by
    rw [fillF, List.getD_cons_succ, fill_get x r (n + 1) i (by simpa using h)]
    congr 2; omega
theorem fill_holds {vars : List Int} {x : List Fact} (hx : propF vars (-1) x = true) : holdsF (fillF x 0 vars) x = true := by
  obtain ⟨hv, hr⟩ := (propF_iff vars x (-1)).1 hx
  obtain ⟨hn, ha⟩ := (vF_iff' x).1 hv
  have hlen : ∀ (r : List Int) (i : Int), (fillF x i r).length = r.length := by
    intro r; induction r with
    | nil => intro i; rfl
    | cons k r ih => intro i; rw [fillF, List.length_cons, ih, List.length_cons]
  rw [holdsF_iff]
  intro f hf
  have h1 := hn f hf
  have h2 := hr f hf
  refine hold1_iff.2 ⟨h1.1, by rw [hlen]; exact h2.1, ?_⟩
  rw [fill_get x vars 0 f.1.toNat (by omega), show (0 : Int) + (f.1.toNat : Int) = f.1 from by omega, (findF_mem ha h1.2).2 hf]
  omega
end Go.Proofs.YtohjegemooakpaaGreat.Am
/- Plain: the decision whether partial states cover a partial state, without a limit: its answer, and the number of its steps. -/
namespace Go.Proofs.YtohjegemooakpaaGreat.Am
open Go.RowKit
def clashP (p x : List Fact) : Bool := x.any fun f => decide (0 ≤ findF p f.1) && decide (findF p f.1 ≠ f.2)
def lowF (p : List Fact) : List Fact → Int → Int
  | [], v => v
  | f :: r, v => lowF p r (if f.1 < v ∧ findF p f.1 < 0 then f.1 else v)
def lowL (p : List Fact) : List (List Fact) → Int → Int
  | [], v => v
  | x :: r, v => lowL p r (lowF p x v)
def kids (f : Int → Bool × Int) : Nat → Int → Int → Bool × Int
  | 0, _, c => (true, c)
  | m + 1, x, c => if (f x).1 = true then kids f m (x + 1) (c + (f x).2) else (false, c + (f x).2)
def restP (p : List Fact) (l : List (List Fact)) : List (List Fact) := l.filter fun x => !clashP p x
def decA (vars : List Int) : Nat → List Fact → List (List Fact) → Bool × Int
  | 0, _, _ => (false, 1)
  | d + 1, p, l =>
    if l.any (fun x => subF x p) then (true, 1)
    else if lowL p (restP p l) vars.length = vars.length then (false, 1)
    else kids (fun x => decA vars d (pwithF p (lowL p (restP p l) vars.length, x)) (restP p l)) (vars.getD (lowL p (restP p l) vars.length).toNat 0).toNat 0 1
theorem lowF_spec (p : List Fact) : ∀ (l : List Fact) (v : Int), lowF p l v ≤ v ∧ (∀ f ∈ l, findF p f.1 < 0 → lowF p l v ≤ f.1) ∧ (lowF p l v = v ∨ ∃ f ∈ l, f.1 = lowF p l v ∧ findF p f.1 < 0)
  | [], v => ⟨Int.le_refl _, (nofun), .inl rfl⟩
  | f :: r, v => by
    rw [lowF]
    by_cases h : f.1 < v ∧ findF p f.1 < 0
    · rw [if_pos h]
      obtain ⟨h1, h2, h3⟩ := lowF_spec p r f.1
      refine ⟨by omega, fun u hu hn => ?_, ?_⟩
      · rcases List.mem_cons.1 hu with rfl | hu
        · exact h1
        · exact h2 u hu hn
      · rcases h3 with h3 | ⟨u, hu, e⟩
        · exact .inr ⟨f, List.mem_cons_self .., h3.symm, h.2⟩
        · exact .inr ⟨u, List.mem_cons_of_mem _ hu, e⟩
    · rw [if_neg h]
      obtain ⟨h1, h2, h3⟩ := lowF_spec p r v
      refine ⟨h1, fun u hu hn => ?_, ?_⟩
      · rcases List.mem_cons.1 hu with rfl | hu
        · have : ¬ u.1 < v := fun hlt => h ⟨hlt, hn⟩
          omega
        · exact h2 u hu hn
      · rcases h3 with h3 | ⟨u, hu, e⟩
        · exact .inl h3
        · exact .inr ⟨u, List.mem_cons_of_mem _ hu, e⟩
theorem lowL_spec (p : List Fact) : ∀ (l : List (List Fact)) (v : Int), lowL p l v ≤ v ∧ (∀ x ∈ l, ∀ f ∈ x, findF p f.1 < 0 → lowL p l v ≤ f.1) ∧ (lowL p l v = v ∨ ∃ x ∈ l, ∃ f ∈ x, f.1 = lowL p l v ∧ findF p f.1 < 0)
  | [], v => ⟨Int.le_refl _, (nofun), .inl rfl⟩
  | x :: r, v => by
    rw [lowL]
    obtain ⟨g1, g2, g3⟩ := lowF_spec p x v
    obtain ⟨h1, h2, h3⟩ := lowL_spec p r (lowF p x v)
    refine ⟨by omega, fun y hy f hf hn => ?_, ?_⟩
    · rcases List.mem_cons.1 hy with rfl | hy
      · have := g2 f hf hn; omega
      · exact h2 y hy f hf hn
    · rcases h3 with h3 | ⟨y, hy, f, hf, e⟩
      · rcases g3 with g3 | ⟨f, hf, e, hn⟩
        · exact .inl (by omega)
        · exact .inr ⟨x, List.mem_cons_self .., f, hf, by omega, hn⟩
      · exact .inr ⟨y, List.mem_cons_of_mem _ hy, f, hf, e⟩
theorem kids_true (f : Int → Bool × Int) : ∀ (m : Nat) (x c : Int), (kids f m x c).1 = true ↔ ∀ y : Int, x ≤ y → y < x + m → (f y).1 = true
  | 0, x, c => ⟨fun _ y h1 h2 => by omega, fun _ => rfl⟩
  | m + 1, x, c => by
    rw [kids]
    by_cases h : (f x).1 = true
    · rw [if_pos h, kids_true f m]
      constructor
      · intro hh y h1 h2
        rcases Int.lt_or_eq_of_le h1 with h3 | rfl
        · exact hh y (by omega) (by omega)
        · exact h
      · intro hh y h1 h2; exact hh y (by omega) (by omega)
    · rw [if_neg h]
      exact ⟨fun hh => (by cases hh), fun hh => absurd (hh x (Int.le_refl _) (by omega)) h⟩
theorem findF_none {p : List Fact} {v : Int} (hn : Nonneg p) : findF p v < 0 ↔ ∀ z ∈ p, z.1 ≠ v := by
  induction p with
  | nil => exact ⟨fun _ => (nofun), fun _ => (by rw [findF]; omega)⟩
  | cons f r ih =>
    have hr : Nonneg r := fun x hx => hn x (List.mem_cons_of_mem _ hx)
    have hf := hn f (List.mem_cons_self ..)
    rw [findF]
    by_cases e : f.1 = v
    · rw [if_pos e]; exact ⟨fun h => by omega, fun h => absurd e (h f (List.mem_cons_self ..))⟩
    · rw [if_neg e, ih hr]
      exact ⟨fun h z hz => by rcases List.mem_cons.1 hz with rfl | hz; exact e; exact h z hz, fun h z hz => h z (List.mem_cons_of_mem _ hz)⟩
theorem findF_some {p : List Fact} {v : Int} (h : 0 ≤ findF p v) : (v, findF p v) ∈ p := by
  induction p with
  | nil => rw [findF] at h; omega
  | cons f r ih =>
    rw [findF] at h ⊢
    by_cases e : f.1 = v
    · rw [if_pos e]; rw [← e]; exact List.mem_cons_self ..
    · rw [if_neg e] at h ⊢; exact List.mem_cons_of_mem _ (ih h)
theorem prop_vf {vars : List Int} {p : List Fact} (h : propF vars (-1) p = true) : Nonneg p ∧ Asc p ∧ ∀ x ∈ p, x.1 < vars.length ∧ x.2 < vars.getD x.1.toNat 0 := by
  obtain ⟨hv, hr⟩ := (propF_iff vars p (-1)).1 h
  obtain ⟨hn, ha⟩ := (vF_iff' p).1 hv
  exact ⟨hn, ha, hr⟩
theorem pwith_prop {vars : List Int} {p : List Fact} (h : propF vars (-1) p = true) {v x : Int} (v0 : 0 ≤ v) (v1 : v < vars.length) (hf : findF p v < 0) (x0 : 0 ≤ x) (x1 : x < vars.getD v.toNat 0) : propF vars (-1) (pwithF p (v, x)) = true := by
  obtain ⟨hn, ha, hr⟩ := prop_vf h
  refine (propF_iff _ _ _).2 ⟨(vF_iff' _).2 ⟨fun z hz => ?_, pwithF_asc p (v, x) ha ((findF_none hn).1 hf)⟩, fun z hz => ?_⟩
  · rcases (pwithF_mem p (v, x) z).1 hz with hz | rfl
    · exact hn z hz
    · exact ⟨v0, x0⟩
  · rcases (pwithF_mem p (v, x) z).1 hz with hz | rfl
    · exact hr z hz
    · exact ⟨v1, x1⟩
theorem holds_pwith {s : List Int} {p : List Fact} {v x : Int} : holdsF s (pwithF p (v, x)) = true ↔ holdsF s p = true ∧ hold1 s (v, x) = true := by
  rw [holdsF_iff, holdsF_iff]
  constructor
  · intro h; exact ⟨fun z hz => h z ((pwithF_mem _ _ _).2 (.inl hz)), h _ ((pwithF_mem _ _ _).2 (.inr rfl))⟩
  · rintro ⟨h1, h2⟩ z hz
    rcases (pwithF_mem _ _ _).1 hz with hz | rfl
    · exact h1 z hz
    · exact h2
theorem clash_not {s : List Int} {p x : List Fact} (hp : holdsF s p = true) (h : clashP p x = true) : ¬ holdsF s x = true := by
  intro hx
  unfold clashP at h
  obtain ⟨f, hf, e⟩ := List.any_eq_true.1 h
  simp only [Bool.and_eq_true, decide_eq_true_iff] at e
  have h1 := hold1_iff.1 (holdsF_iff.1 hp _ (findF_some e.1))
  have h2 := hold1_iff.1 (holdsF_iff.1 hx f hf)
  exact e.2 (h1.2.2.symm.trans h2.2.2)
theorem rest_some {s : List Int} {p : List Fact} (hp : holdsF s p = true) (l : List (List Fact)) : some1 s (restP p l) ↔ some1 s l := by
  unfold some1 restP
  constructor
  · rintro ⟨z, hz, h⟩; exact ⟨z, (List.mem_filter.1 hz).1, h⟩
  · rintro ⟨z, hz, h⟩
    refine ⟨z, List.mem_filter.2 ⟨hz, ?_⟩, h⟩
    cases hc : clashP p z with
    | false => rfl
    | true => exact absurd h (clash_not hp hc)
/-- what the decision is asked for -/
structure DecP (vars : List Int) (d : Nat) (p : List Fact) (l : List (List Fact)) : Prop where
  dom : ∀ n ∈ vars, 1 ≤ n
  prop : propF vars (-1) p = true
  all : PropL vars l
  deep : vars.length < d + p.length
theorem DecP.low {vars : List Int} {d : Nat} {p : List Fact} {l : List (List Fact)} (h : DecP vars d p l) (hl : lowL p (restP p l) vars.length ≠ vars.length) : 0 ≤ lowL p (restP p l) vars.length ∧ lowL p (restP p l) vars.length < vars.length ∧ findF p (lowL p (restP p l) vars.length) < 0 := by
  obtain ⟨h1, -, h3⟩ := lowL_spec p (restP p l) vars.length
  rcases h3 with h3 | ⟨x, hx, f, hf, e, hn⟩
  · exact absurd h3 hl
  · obtain ⟨hxn, -, -⟩ := prop_vf (h.all x (List.mem_filter.1 hx).1)
    have := (hxn f hf).1
    exact ⟨by omega, by omega, by rw [← e]; exact hn⟩
theorem DecP.kid {vars : List Int} {d : Nat} {p : List Fact} {l : List (List Fact)} (h : DecP vars (d + 1) p l) (hl : lowL p (restP p l) vars.length ≠ vars.length) {x : Int} (x0 : 0 ≤ x) (x1 : x < vars.getD (lowL p (restP p l) vars.length).toNat 0) : DecP vars d (pwithF p (lowL p (restP p l) vars.length, x)) (restP p l) := by
  obtain ⟨h1, h2, h3⟩ := h.low hl
  exact ⟨h.dom, pwith_prop h.prop h1 h2 h3 x0 x1, fun z hz => h.all z (List.mem_filter.1 hz).1, by rw [pwithF_len]; have := h.deep; omega⟩
theorem DecP.zero {vars : List Int} {p : List Fact} {l : List (List Fact)} (h : DecP vars 0 p l) : False := by
  have h1 := propF_len' h.prop
  have h2 := h.deep
  omega
/-- a state with a proper partial state -/
theorem some_state {vars : List Int} (hd : ∀ n ∈ vars, 1 ≤ n) {p : List Fact} (h : propF vars (-1) p = true) : ∃ s, stateF vars s = true ∧ holdsF s p = true := by
  obtain ⟨hn, -, hr⟩ := prop_vf h
  exact ⟨fillF p 0 vars, fill_state hd (fun f hf => ⟨(hn f hf).2, (hn f hf).1, hr f hf⟩) vars 0 rfl, fill_holds h⟩
theorem decA_true {vars : List Int} : ∀ (d : Nat) (p : List Fact) (l : List (List Fact)), DecP vars d p l → ((decA vars d p l).1 = true ↔ ∀ s, stateF vars s = true → holdsF s p = true → some1 s l)
  | 0, p, l, h => h.zero.elim
  | d + 1, p, l, h => by
    rw [decA]
    by_cases hc : l.any (fun x => subF x p) = true
    · rw [if_pos hc]
      refine ⟨fun _ s _ hp => ?_, fun _ => rfl⟩
      obtain ⟨x, hx, hs⟩ := List.any_eq_true.1 hc
      exact ⟨x, hx, holdsF_iff.2 fun f hf => holdsF_iff.1 hp f (subF_iff.1 hs f hf)⟩
    · rw [if_neg hc]
      by_cases hl : lowL p (restP p l) vars.length = vars.length
      · rw [if_pos hl]
        refine ⟨fun hh => (by cases hh), fun hh => ?_⟩
        obtain ⟨s, s1, s2⟩ := some_state h.dom h.prop
        obtain ⟨x, hx, -⟩ := (rest_some s2 l).2 (hh s s1 s2)
        obtain ⟨hxl, hxc⟩ := List.mem_filter.1 hx
        obtain ⟨hxn, -, hxr⟩ := prop_vf (h.all x hxl)
        obtain ⟨hpn, hpa, -⟩ := prop_vf h.prop
        refine absurd ((List.any_eq_true (p := fun x => subF x p)).2 ⟨x, hxl, subF_iff.2 fun f hf => ?_⟩) hc
        have h0 : 0 ≤ findF p f.1 := by
          refine Int.not_lt.1 fun hn => ?_
          have h1 := (lowL_spec p (restP p l) vars.length).2.1 x hx f hf hn
          have h2 := (hxr f hf).1
          omega
        have h3 : findF p f.1 = f.2 := by
          refine Decidable.byContradiction fun hne => ?_
          have : clashP p x = true := List.any_eq_true.2 ⟨f, hf, by simp only [Bool.and_eq_true, decide_eq_true_iff]; exact ⟨h0, hne⟩⟩
          rw [this] at hxc
          cases hxc
        exact (findF_mem hpa (hxn f hf).2).1 h3
      · rw [if_neg hl, kids_true]
        obtain ⟨h1, h2, h3⟩ := h.low hl
        have hdom := h.dom
        constructor
        · intro hh s s1 s2
          have st := stateF_st s1
          have hr := st.rng (lowL p (restP p l) vars.length).toNat (by omega)
          have hx := hh (s.getD (lowL p (restP p l) vars.length).toNat 0) hr.1 (by omega)
          have hk := h.kid hl hr.1 hr.2
          have := (decA_true d _ _ hk).1 hx s s1 (holds_pwith.2 ⟨s2, hold1_iff.2 ⟨h1, by rw [st.len]; exact h2, rfl⟩⟩)
          exact (rest_some s2 l).1 this
        · intro hh y y0 y1
          have y2 : y < vars.getD (lowL p (restP p l) vars.length).toNat 0 := by omega
          refine (decA_true d _ _ (h.kid hl y0 y2)).2 fun s s1 s2 => ?_
          have s3 := (holds_pwith.1 s2).1
          exact (rest_some s3 l).2 (hh s s1 s3)
end Go.Proofs.YtohjegemooakpaaGreat.Am
/- Models printed by my decompiler, and the proofs that the code computes them. -/
namespace Go.Proofs.YtohjegemooakpaaGreat.Am
set_option maxHeartbeats 16000000
set_option maxRecDepth 100000
open Go.RowKit
def M_certify_bounded (a0 : Int) : Option (Bool) :=
  sel (decide (a0 ≥ (-1)))
   (some (decide (a0 ≤ 1099511627776)))
   (some false)
theorem A_certify_bounded (a0 : Int) {r1 : Bool} (h : M_certify_bounded a0 = some r1) : ACall cx 38 [.c (.int .i64 a0)] (.c (.bool r1)) := by
  refine aOf Tryz.func38 rfl (by decide) rfl (Nat.le_of_ble_eq_true rfl) ?_; intro _; unfold M_certify_bounded at h; refine aSR ?_; intro _; refine dr ?_; refine aSR ?_; intro _; refine spl h (fun c1 h => ?_) (fun c1 h => ?_)
  · intro _; refine dr ?_; refine aRt ?_; intro _; obtain rfl := inj1 h; exact ca_0
  · intro _; refine dr ?_; refine aRt ?_; intro _; obtain rfl := inj1 h; exact ca_0
def M_s_IndexFunc_Nogood_L1 (a0 : List Nogood) (a1 : Nogood → Option Bool) : Nat → Int → Option (Int)
  | 0, _ => none
  | k7 + 1, v6 =>
    sel (decide (v6 < ((a0.map cN).length : Int)))
     (ix a0 v6 (fun y8 =>
       ob1 (a1 y8) (fun z9 =>
        sel z9
         (some v6)
         (M_s_IndexFunc_Nogood_L1 a0 a1 k7 (IntKind.i64.wrap (v6 + 1))))))
     (some (-1))
def M_s_IndexFunc_Nogood (a0 : List Nogood) (a1 : Nogood → Option Bool) : Option (Int) :=
  M_s_IndexFunc_Nogood_L1 a0 a1 ((((a0.map cN).length : Int)).toNat + 1) 0
theorem A_s_IndexFunc_Nogood (a0 : List Nogood) (a1 : Nogood → Option Bool) (Fa1 : AV) (hFa1 : Fr Fa1) (ea1 : ∃ f fs cap, Fa1 = .clo (.func f) fs cap) (ha1 : ∀ (x0 : Nogood) (y0 : Bool), a1 x0 = some y0 → CCl cx Fa1 [.agg [.sl 2 (x0.1.map cF), .c (.int .i64 x0.2)]] (.c (.bool y0))) {r1 : Int} (h : M_s_IndexFunc_Nogood a0 a1 = some r1) : ACall cx 92 [.sl 2 (a0.map cN), Fa1] (.c (.int .i64 r1)) := by
  obtain ⟨fa1, sa1, qa1, rfl⟩ := ea1; refine aOf Tryz.func92 rfl (by decide) rfl (Nat.le_of_ble_eq_true rfl) ?_; intro _; unfold M_s_IndexFunc_Nogood at h; refine aSR ?_; intro _; refine dr ?_; refine aSq ?_; refine aSR ?_; intro _; refine dr ?_; refine aBk ?_; refine awp_loop (α := Nat × Int) (fun x => mkS 19 [(0, .sl 2 (a0.map cN)), (1, .clo (.func fa1) sa1 qa1), (7, .c (.int .i64 ((a0.map cN).length : Int))), (8, .c (.int .i64 x.2))] []) (fun x => M_s_IndexFunc_Nogood_L1 a0 a1 x.1 x.2 = some r1) (fun x => x.1) ((((a0.map cN).length : Int)).toNat + 1, 0) h ?_ ?_
  · exact ca_0
  · intro x1 h; intro _; obtain ⟨k7, m2, h⟩ := succ_of (f := fun n => M_s_IndexFunc_Nogood_L1 a0 a1 n x1.2) rfl h; replace h : M_s_IndexFunc_Nogood_L1 a0 a1 (k7 + 1) x1.2 = some r1 := h; rw [M_s_IndexFunc_Nogood_L1] at h; refine aSR ?_; intro _; refine dr ?_; refine aSq ?_; refine aCd ?_; intro _; refine spl h (fun c3 h => ?_) (fun c3 h => ?_)
    · refine aSk ?_; refine aSq ?_; refine aBk ?_; refine aSR ?_; intro _; refine dr ?_; refine aSR ?_; intro _; obtain ⟨y8, w4, q5, h⟩ := ix_ok h; refine Exists.intro (cN y8) (And.intro (map_at' w4) ?_); intro _; obtain ⟨z9, u6, h⟩ := ob1_ok h; refine clc rfl (ha1 _ _ u6) hFa1 ?_; intro _; refine pr ?_; refine dr ?_; refine aCd ?_; intro _; refine spl h (fun c7 h => ?_) (fun c7 h => ?_)
      · refine aSR ?_; intro _; refine dr ?_; refine aRt ?_; intro _; obtain rfl := inj1 h; exact ca_0
      · refine aSk ?_; refine aRg ?_; intro _; refine dr ?_; refine ⟨(k7, (IntKind.i64.wrap (x1.2 + 1))), h, ltS m2, ?_⟩; exact ca_0
    · refine aEx ?_; refine aSR ?_; intro _; refine dr ?_; refine aRt ?_; intro _; obtain rfl := inj1 h; exact ca_0
def M_s_ContainsFunc_Nogood (a0 : List Nogood) (a1 : Nogood → Option Bool) : Option (Bool) :=
  ob1 (M_s_IndexFunc_Nogood a0 a1) (fun z1 =>
   some (decide (z1 ≥ 0)))
theorem A_s_ContainsFunc_Nogood (a0 : List Nogood) (a1 : Nogood → Option Bool) (Fa1 : AV) (hFa1 : Fr Fa1) (ea1 : ∃ f fs cap, Fa1 = .clo (.func f) fs cap) (ha1 : ∀ (x0 : Nogood) (y0 : Bool), a1 x0 = some y0 → CCl cx Fa1 [.agg [.sl 2 (x0.1.map cF), .c (.int .i64 x0.2)]] (.c (.bool y0))) {r1 : Bool} (h : M_s_ContainsFunc_Nogood a0 a1 = some r1) : ACall cx 73 [.sl 2 (a0.map cN), Fa1] (.c (.bool r1)) := by
  obtain ⟨fa1, sa1, qa1, rfl⟩ := ea1; refine aOf Tryz.func73 rfl (by decide) rfl (Nat.le_of_ble_eq_true rfl) ?_; intro _; unfold M_s_ContainsFunc_Nogood at h; refine aSR ?_; intro _; refine dr ?_; refine aSR ?_; intro _; obtain ⟨z1, u1, h⟩ := ob1_ok h; refine cl rfl (A_s_IndexFunc_Nogood a0 a1 (.clo (.func fa1) sa1 qa1) hFa1 ⟨_, _, _, rfl⟩ ha1 u1) ?_; intro _; refine dr ?_; refine aRt ?_; intro _; obtain rfl := inj1 h; exact ca_0
def M_p_Contains (a0 : List Fact) (a1 : List Fact) : Option (Bool) :=
  ob1 (M_p_valid a0) (fun z1 =>
   sel z1
    (ob1 (M_p_valid a1) (fun z2 =>
      sel z2
       (ob1 (M_p_contains a0 a1) (fun z3 =>
         some z3))
       (some false)))
    (some false))
theorem A_p_Contains (a0 : List Fact) (a1 : List Fact) {r1 : Bool} (h : M_p_Contains a0 a1 = some r1) : ACall cx 20 [.sl 2 (a0.map cF), .sl 2 (a1.map cF)] (.c (.bool r1)) := by
  refine aOf Tryz.func20 rfl (by decide) rfl (Nat.le_of_ble_eq_true rfl) ?_; intro _; unfold M_p_Contains at h; refine aSR ?_; intro _; refine dr ?_; refine aSR ?_; intro _; obtain ⟨z1, u1, h⟩ := ob1_ok h; refine cl rfl (A_p_valid a0 u1) ?_; intro _; refine spl h (fun c2 h => ?_) (fun c2 h => ?_)
  · intro _; obtain ⟨z2, u3, h⟩ := ob1_ok h; refine cl rfl (A_p_valid a1 u3) ?_; intro _; refine spl h (fun c4 h => ?_) (fun c4 h => ?_)
    · intro _; obtain ⟨z3, u5, h⟩ := ob1_ok h; refine cl rfl (A_p_contains a0 a1 u5) ?_; intro _; refine dr ?_; refine aRt ?_; intro _; obtain rfl := inj1 h; exact ca_0
    · intro _; refine dr ?_; refine aRt ?_; intro _; obtain rfl := inj1 h; exact ca_0
  · intro _; refine dr ?_; refine aRt ?_; intro _; obtain rfl := inj1 h; exact ca_0
def M_certify_contains_1 (b0 : List Fact) (a0 : Nogood) : Option (Bool) :=
  ob1 (M_p_Contains b0 a0.1) (fun z1 =>
   some z1)
theorem A_certify_contains_1 (b0 : List Fact) (a0 : Nogood) {r1 : Bool} (h : M_certify_contains_1 b0 a0 = some r1) : ACall cx 74 [.agg [.sl 2 (a0.1.map cF), .c (.int .i64 a0.2)], .pim [.sl 2 (b0.map cF)] 0] (.c (.bool r1)) := by
  refine aOf Tryz.func74 rfl (by decide) rfl (Nat.le_of_ble_eq_true rfl) ?_; intro _; unfold M_certify_contains_1 at h; refine aSR ?_; intro _; refine dr ?_; refine aSR ?_; intro _; obtain ⟨z1, u1, h⟩ := ob1_ok h; refine cl rfl (A_p_Contains b0 a0.1 u1) ?_; intro _; refine dr ?_; refine aRt ?_; intro _; obtain rfl := inj1 h; exact ca_0
def M_certify_contains (a0 : List Fact) (a1 : List Nogood) : Option (Bool) :=
  ob1 (M_s_ContainsFunc_Nogood a1 (M_certify_contains_1 a0)) (fun z1 =>
   some z1)
theorem A_certify_contains (a0 : List Fact) (a1 : List Nogood) {r1 : Bool} (h : M_certify_contains a0 a1 = some r1) : ACall cx 42 [.sl 2 (a0.map cF), .sl 2 (a1.map cN)] (.c (.bool r1)) := by
  refine aOf Tryz.func42 rfl (by decide) rfl (Nat.le_of_ble_eq_true rfl) ?_; intro _; unfold M_certify_contains at h; refine aSR ?_; intro _; refine dr ?_; refine aSR ?_; intro _; refine ⟨_, lf_func rfl (Nat.le_of_ble_eq_true rfl) rfl rfl, ?_⟩; intro _; obtain ⟨z1, u1, h⟩ := ob1_ok h; refine clb [2] rfl rfl (A_s_ContainsFunc_Nogood a1 (M_certify_contains_1 a0) (.clo (.func 74) [] [.pim [.sl 2 (a0.map cF)] 0]) (Fr.clo FrC_nil FrE.h) ⟨_, _, _, rfl⟩ (fun x0 y0 hx => ⟨74, [], _, rfl, A_certify_contains_1 a0 x0 hx⟩) u1) ?_; intro _; refine dr ?_; refine aRt ?_; intro _; obtain rfl := inj1 h; exact ca_0
def M_certify_Lower_L1 (g : Nat) (v843 : Int) (z845 : List (List Fact)) : Nat → Int → Int → (List GEntry) → Option ((Int × (List GEntry)) ⊕ (GCertificate × Er))
  | 0, _, _, _ => none
  | k858 + 1, v855, v856, v857 =>
    sel (decide (v856 < ((z845.map cL_cF).length : Int)))
     (ix z845 v856 (fun y859 =>
       ob1 (M_container_heap_Push g v857 ({ facts := y859, dist := v843, order := v855 : GEntry })) (fun c860 =>
        M_certify_Lower_L1 g v843 z845 k858 (IntKind.i64.wrap (v855 + 1)) (IntKind.i64.wrap (v856 + 1)) c860)))
     (some (.inl (v855, v857)))
def M_certify_Lower_L2 (a0 : GTask) (a1 : Int) (g : Nat) (z580 : GEntry) : Nat → Int → Int → (List GEntry) → Option ((Int × (List GEntry)) ⊕ (GCertificate × Er))
  | 0, _, _, _ => none
  | k817 + 1, v814, v815, v816 =>
    sel (decide (v815 < ((a0.Ops.map cGOp).length : Int)))
     (ob1 (ix a0.Ops v815 (fun y842 =>
        ob1 (sel (decide (a1 < 0))
          (some (.inl 0))
          (sel (decide ((IntKind.i64.wrap (z580.dist + y842.Cost)) ≥ a1))
            (some (.inr ()))
            (some (.inl (IntKind.i64.wrap (z580.dist + y842.Cost))))) : Option (Int ⊕ Unit))
         (osum
         (fun v843 => ob2 (M_g_Regress g a0 v815 z580.facts) (fun z845 z846 =>
            erM z846
             (M_certify_Lower_L1 g v843 z845 ((((z845.map cL_cF).length : Int)).toNat + 1) v814 0 v816)
             (fun e847 => some (.inr ({ Bound := 0, Nogoods := [] : GCertificate }, (Er.no e847))))))
         (fun _ => some (.inl (v814, v816))))) : Option ((Int × (List GEntry)) ⊕ (GCertificate × Er)))
       (osum
       (fun (v837, v838) => M_certify_Lower_L2 a0 a1 g z580 k817 v837 (IntKind.i64.wrap (v815 + 1)) v838)
       (fun (r839, r840) => some (.inr (r839, r840)))))
     (some (.inl (v814, v816)))
def M_certify_Lower_L3 (a0 : GTask) (a1 : Int) (a2 : Int) (g : Nat) : Nat → Int → (List GEntry) → (List Nogood) → Option (GCertificate × Er)
  | 0, _, _, _ => none
  | k577 + 1, v574, v575, v576 =>
    ob2 (M_stratagem_certify_entries_Len v575) (fun z578 c579 =>
     grd (c579.length = v575.length) (sel (decide (z578 > 0))
      (ob2 (M_container_heap_Pop g c579) (fun z580 c581 =>
        grd (v576.length ≤ 140737488355328) (ob1 (M_certify_contains z580.facts v576) (fun z582 =>
         sel z582
          (M_certify_Lower_L3 a0 a1 a2 g k577 v574 c581 v576)
          (ob1 (M_task_Holds z580.facts a0.Init) (fun z583 =>
            sel z583
             (some ({ Bound := 0, Nogoods := [] : GCertificate }, (Er.no 13)))
             (sel (((v576.length : Nat) : Int) == (max 0 (min a2 4096)))
               (some ({ Bound := 0, Nogoods := [] : GCertificate }, (Er.no 10)))
               (grd ((v576.length + 1) * 32 ≤ 140737488355328) (ob1 (M_certify_Lower_L2 a0 a1 g z580 ((((a0.Ops.map cGOp).length : Int)).toNat + 1) v574 0 c581 : Option ((Int × (List GEntry)) ⊕ (GCertificate × Er)))
                 (osum
                 (fun (v720, v721) => M_certify_Lower_L3 a0 a1 a2 g k577 v720 v721 (v576 ++ [(z580.facts, z580.dist)]))
                 (fun (r722, r723) => some (r722, r723))))))))))))
      (grd (v576.length ≤ 140737488355328) (some ({ Bound := a1, Nogoods := v576 : GCertificate }, Er.nil)))))
def M_certify_Lower (g : Nat) (a0 : GTask) (a1 : Int) (a2 : Int) : Option (GCertificate × Er) :=
  ob1 (M_task_Check a0) (fun z1 =>
   erM z1
    (ob1 (M_certify_bounded a1) (fun z3 =>
      sel (!z3)
       (some ({ Bound := 0, Nogoods := [] : GCertificate }, (Er.no 1)))
       (sel (a1 == 0)
         (some ({ Bound := a1, Nogoods := [] : GCertificate }, Er.nil))
         (ob1 (M_cloneF a0.Goal) (fun z4 =>
           grd (z4.length ≤ 140737488355328) (M_certify_Lower_L3 a0 a1 a2 g g 1 [{ facts := z4, dist := 0, order := 0 : GEntry }] []))))))
    (fun e2 => some ({ Bound := 0, Nogoods := [] : GCertificate }, (Er.no e2))))
theorem A_certify_Lower (g : Nat) (a0 : GTask) (a1 : Int) (a2 : Int) {r1 : GCertificate} {r2 : Er} (h : M_certify_Lower g a0 a1 a2 = some (r1, r2)) : ACall cx 13 [.agg [.sl 1 (a0.Vars.map cI), .sl 1 (a0.Init.map cI), .sl 2 (a0.Goal.map cF), .sl 4 (a0.Ops.map cGOp)], .c (.int .i64 a1), .c (.int .i64 a2)] (.tup [.agg [.c (.int .i64 r1.Bound), .sl 2 (r1.Nogoods.map cN)], eA r2]) := by
  refine aOf Tryz.func13 rfl (by decide) rfl (Nat.le_of_ble_eq_true rfl) ?_; intro _; unfold M_certify_Lower at h; refine aSR ?_; intro _; refine dr ?_; refine aSq ?_; refine aSR ?_; intro _; obtain ⟨z1, u1, h⟩ := ob1_ok h; refine cl rfl (A_task_Check a0 u1) ?_; intro _; refine dr ?_; refine aSq ?_; rcases z1 with _ | e2
  · replace h := erM_nil h; refine aRg ?_; intro _; refine dr ?_; refine aCd ?_; intro _; refine litF ?_; refine aSk ?_; refine aSq ?_; refine aSR ?_; intro _; obtain ⟨z3, u2, h⟩ := ob1_ok h; refine cl rfl (A_certify_bounded a1 u2) ?_; intro _; refine dr ?_; refine aCd ?_; intro _; refine spl h (fun c3 h => ?_) (fun c3 h => ?_)
    · refine aSR ?_; intro _; refine dr ?_; refine aRt ?_; intro _; obtain ⟨rfl, rfl⟩ := inj2 h; exact ca_0
    · refine aSk ?_; refine aSR ?_; intro _; refine dr ?_; refine aSq ?_; refine aSR ?_; intro _; refine dr ?_; refine aCd ?_; intro _; refine spl h (fun c4 h => ?_) (fun c4 h => ?_)
      · refine aSR ?_; intro _; refine dr ?_; refine aRt ?_; intro _; obtain ⟨rfl, rfl⟩ := inj2 h; exact ca_0
      · refine aSk ?_; refine aSR ?_; intro _; refine ⟨_, lf_min rfl (Nat.le_of_ble_eq_true rfl) rfl rfl, ?_⟩; intro _; refine ⟨_, lf_max rfl (Nat.le_of_ble_eq_true rfl) rfl rfl, ?_⟩; intro _; refine dr ?_; refine aSR ?_; intro _; obtain ⟨z4, u5, h⟩ := ob1_ok h; refine clg [(0, 42)] [] [] [(42, ⟨2, some ⟨68, 2, false, z4.map cF⟩⟩)] (.own 42 2 0 z4.length) rfl rfl (A_cloneF a0.Goal u5) ?_; intro _; refine dr ?_; refine aSR ?_; intro _; refine dr ?_; refine aSq ?_; refine aBk ?_; obtain ⟨q6, h⟩ := grd_ok h; refine awp_loop (α := Nat × Int × (List GEntry) × (List Nogood)) (fun x => mkS 136 [(1, .c (.int .i64 a1)), (2, .c (.int .i64 (max 0 (min a2 4096)))), (3, .ptr 3 0 0 0), (6, .ptr 6 0 0 0), (9, .ptr 9 0 0 0), (10, .ptr 45 0 0 0), (11, .c (.int .i64 x.2.1))] [(3, ⟨26, 4, true, [[.sl 1 (a0.Vars.map cI), .sl 1 (a0.Init.map cI), .sl 2 (a0.Goal.map cF), .sl 4 (a0.Ops.map cGOp)]]⟩), (6, ⟨31, 2, true, [[.c (.int .i64 0), .c (.slice none 0 0)]]⟩), (9, ⟨31, 2, true, [[.c (.int .i64 a1), .own 85 0 0 x.2.2.2.length]]⟩), (44, ⟨79, 3, false, x.2.2.1.map cGEntry⟩), (45, ⟨81, 1, true, [[.own 44 0 0 x.2.2.1.length]]⟩), (85, ⟨40, 2, false, x.2.2.2.map cN⟩)]) (fun x => M_certify_Lower_L3 a0 a1 a2 g x.1 x.2.1 x.2.2.1 x.2.2.2 = some (r1, r2)) (fun x => x.1) (g, 1, [{ facts := z4, dist := 0, order := 0 : GEntry }], []) h ?_ ?_
        · exact ca_0
        · intro x7 h; intro _; obtain ⟨k577, m8, h⟩ := succ_of (f := fun n => M_certify_Lower_L3 a0 a1 a2 g n x7.2.1 x7.2.2.1 x7.2.2.2) rfl h; replace h : M_certify_Lower_L3 a0 a1 a2 g (k577 + 1) x7.2.1 x7.2.2.1 x7.2.2.2 = some (r1, r2) := h; rw [M_certify_Lower_L3] at h; refine aSq ?_; refine aSR ?_; intro _; obtain ⟨z578, c579, u9, h⟩ := ob2_ok h; refine clg [(5, 44)] [] [] [(44, ⟨0, some ⟨79, 3, false, c579.map cGEntry⟩⟩)] (.c (.int .i64 z578)) rfl rfl (A_stratagem_certify_entries_Len x7.2.2.1 u9) ?_; obtain ⟨q10, h⟩ := grd_ok h; intro _; refine dr ?_; refine aCd ?_; intro _; refine spl h (fun c11 h => ?_) (fun c11 h => ?_)
          · refine aSk ?_; refine aBk ?_; refine aSR ?_; intro _; obtain ⟨z580, c581, u12, h⟩ := ob2_ok h; refine clg [(16, 45), (0, 44)] [] [(44, ⟨1, none⟩)] [(45, ⟨0, some ⟨81, 1, true, [[.own 44 2 0 c581.length]]⟩⟩), (44, ⟨2, some ⟨79, 3, false, c581.map cGEntry⟩⟩)] (.ifc 79 (.agg [.sl 2 (z580.facts.map cF), .c (.int .i64 z580.dist), .c (.int .i64 z580.order)])) rfl rfl (A_container_heap_Pop g c579 u12) ?_; intro _; refine ⟨_, lf_assert rfl (Nat.le_of_ble_eq_true rfl) rfl (fun _ _ => by kernel_rfl), ?_⟩; intro _; refine dr ?_; refine aSq ?_; refine aSR ?_; intro _; obtain ⟨q13, h⟩ := grd_ok h; obtain ⟨z582, u14, h⟩ := ob1_ok h; refine clb [85] rfl rfl (A_certify_contains z580.facts x7.2.2.2 u14) ?_; intro _; refine dr ?_; refine aCd ?_; intro _; refine spl h (fun c15 h => ?_) (fun c15 h => ?_)
            · refine aEx ?_; refine ⟨(k577, x7.2.1, c581, x7.2.2.2), h, ltS m8, ?_⟩; exact ca_0
            · refine aSk ?_; refine aSq ?_; refine aSR ?_; intro _; obtain ⟨z583, u16, h⟩ := ob1_ok h; refine cl rfl (A_task_Holds z580.facts a0.Init u16) ?_; intro _; refine dr ?_; refine aCd ?_; intro _; refine spl h (fun c17 h => ?_) (fun c17 h => ?_)
              · refine aSR ?_; intro _; refine dr ?_; refine aRt ?_; intro _; obtain ⟨rfl, rfl⟩ := inj2 h; exact ca_0
              · refine aSk ?_; refine aSq ?_; refine aSR ?_; intro _; refine dr ?_; refine aCd ?_; intro _; refine spl h (fun c18 h => ?_) (fun c18 h => ?_)
                · refine aSR ?_; intro _; refine dr ?_; refine aRt ?_; intro _; obtain ⟨rfl, rfl⟩ := inj2 h; exact ca_0
                · refine aSk ?_; refine aSR ?_; intro _; obtain ⟨q19, h⟩ := grd_ok h; refine pl ?_; refine pl ?_; refine And.intro (by first | with_reducible assumption | (show (x7.2.2.2.length + 1) * 32 ≤ 140737488355328; with_reducible assumption) | omega | (simp; omega)) ?_; refine pe ?_; refine dr ?_; refine aSR ?_; intro _; refine dr ?_; obtain ⟨o20, h, hK21⟩ := ob1_ok h; refine awp_cutT (α := Int × (List GEntry)) (fun (v720, v721) => mkS 136 [(1, .c (.int .i64 a1)), (2, .c (.int .i64 (max 0 (min a2 4096)))), (3, .ptr 3 0 0 0), (6, .ptr 6 0 0 0), (9, .ptr 9 0 0 0), (10, .ptr 45 0 0 0), (11, .c (.int .i64 v720))] [(3, ⟨26, 4, true, [[.sl 1 (a0.Vars.map cI), .sl 1 (a0.Init.map cI), .sl 2 (a0.Goal.map cF), .sl 4 (a0.Ops.map cGOp)]]⟩), (6, ⟨31, 2, true, [[.c (.int .i64 0), .c (.slice none 0 0)]]⟩), (9, ⟨31, 2, true, [[.c (.int .i64 a1), .own 85 0 0 (x7.2.2.2.length + 1)]]⟩), (44, ⟨79, 3, false, v721.map cGEntry⟩), (45, ⟨81, 1, true, [[.own 44 0 0 v721.length]]⟩), (85, ⟨40, 2, false, (x7.2.2.2 ++ [(z580.facts, z580.dist)]).map cN⟩)]) (fun v => o20 = (.inl v)) ?_ ?_
                  · refine aBk ?_; refine awp_loop (α := Nat × Int × Int × (List GEntry)) (fun x => mkS 136 [(1, .c (.int .i64 a1)), (2, .c (.int .i64 (max 0 (min a2 4096)))), (3, .ptr 3 0 0 0), (6, .ptr 6 0 0 0), (9, .ptr 9 0 0 0), (10, .ptr 45 0 0 0), (11, .c (.int .i64 x.2.1)), (12, .ptr 12 0 0 0), (88, .sl 4 (a0.Ops.map cGOp)), (89, .c (.int .i64 ((a0.Ops.map cGOp).length : Int))), (90, .c (.int .i64 x.2.2.1))] [(3, ⟨26, 4, true, [[.sl 1 (a0.Vars.map cI), .sl 1 (a0.Init.map cI), .sl 2 (a0.Goal.map cF), .sl 4 (a0.Ops.map cGOp)]]⟩), (6, ⟨31, 2, true, [[.c (.int .i64 0), .c (.slice none 0 0)]]⟩), (9, ⟨31, 2, true, [[.c (.int .i64 a1), .own 85 0 0 (x7.2.2.2.length + 1)]]⟩), (12, ⟨79, 3, true, [[.sl 2 (z580.facts.map cF), .c (.int .i64 z580.dist), .c (.int .i64 z580.order)]]⟩), (44, ⟨79, 3, false, x.2.2.2.map cGEntry⟩), (45, ⟨81, 1, true, [[.own 44 0 0 x.2.2.2.length]]⟩), (85, ⟨40, 2, false, (x7.2.2.2 ++ [(z580.facts, z580.dist)]).map cN⟩)]) (fun x => M_certify_Lower_L2 a0 a1 g z580 x.1 x.2.1 x.2.2.1 x.2.2.2 = some o20) (fun x => x.1) ((((a0.Ops.map cGOp).length : Int)).toNat + 1, x7.2.1, 0, c581) h ?_ ?_
                    · exact ca_0
                    · intro x22 h; intro _; obtain ⟨k817, m23, h⟩ := succ_of (f := fun n => M_certify_Lower_L2 a0 a1 g z580 n x22.2.1 x22.2.2.1 x22.2.2.2) rfl h; replace h : M_certify_Lower_L2 a0 a1 g z580 (k817 + 1) x22.2.1 x22.2.2.1 x22.2.2.2 = some o20 := h; rw [M_certify_Lower_L2] at h; refine aSR ?_; intro _; refine dr ?_; refine aSq ?_; refine aCd ?_; intro _; refine spl h (fun c24 h => ?_) (fun c24 h => ?_)
                      · refine aSk ?_; obtain ⟨o25, h, hK26⟩ := ob1_ok h; refine awp_cut (α := Int × (List GEntry)) (fun (v837, v838) => mkS 136 [(1, .c (.int .i64 a1)), (2, .c (.int .i64 (max 0 (min a2 4096)))), (3, .ptr 3 0 0 0), (6, .ptr 6 0 0 0), (9, .ptr 9 0 0 0), (10, .ptr 45 0 0 0), (11, .c (.int .i64 v837)), (12, .ptr 12 0 0 0), (88, .sl 4 (a0.Ops.map cGOp)), (89, .c (.int .i64 ((a0.Ops.map cGOp).length : Int))), (90, .c (.int .i64 x22.2.2.1))] [(3, ⟨26, 4, true, [[.sl 1 (a0.Vars.map cI), .sl 1 (a0.Init.map cI), .sl 2 (a0.Goal.map cF), .sl 4 (a0.Ops.map cGOp)]]⟩), (6, ⟨31, 2, true, [[.c (.int .i64 0), .c (.slice none 0 0)]]⟩), (9, ⟨31, 2, true, [[.c (.int .i64 a1), .own 85 0 0 (x7.2.2.2.length + 1)]]⟩), (12, ⟨79, 3, true, [[.sl 2 (z580.facts.map cF), .c (.int .i64 z580.dist), .c (.int .i64 z580.order)]]⟩), (44, ⟨79, 3, false, v838.map cGEntry⟩), (45, ⟨81, 1, true, [[.own 44 0 0 v838.length]]⟩), (85, ⟨40, 2, false, (x7.2.2.2 ++ [(z580.facts, z580.dist)]).map cN⟩)]) (fun v => o25 = (.inl v)) ?_ ?_
                        · refine aBk ?_; refine aSR ?_; intro _; obtain ⟨y842, w27, q28, h⟩ := ix_ok h; refine Exists.intro (cGOp y842) (And.intro (map_at' w27) ?_); intro _; refine pr ?_; refine dr ?_; refine aSR ?_; intro _; refine dr ?_; obtain ⟨o29, h, hK30⟩ := ob1_ok h; refine awp_cut (α := Int) (fun v843 => mkS 136 [(1, .c (.int .i64 a1)), (2, .c (.int .i64 (max 0 (min a2 4096)))), (3, .ptr 3 0 0 0), (6, .ptr 6 0 0 0), (9, .ptr 9 0 0 0), (10, .ptr 45 0 0 0), (11, .c (.int .i64 x22.2.1)), (12, .ptr 12 0 0 0), (14, .c (.int .i64 x22.2.2.1)), (16, .c (.int .i64 v843)), (88, .sl 4 (a0.Ops.map cGOp)), (89, .c (.int .i64 ((a0.Ops.map cGOp).length : Int))), (90, .c (.int .i64 x22.2.2.1))] [(3, ⟨26, 4, true, [[.sl 1 (a0.Vars.map cI), .sl 1 (a0.Init.map cI), .sl 2 (a0.Goal.map cF), .sl 4 (a0.Ops.map cGOp)]]⟩), (6, ⟨31, 2, true, [[.c (.int .i64 0), .c (.slice none 0 0)]]⟩), (9, ⟨31, 2, true, [[.c (.int .i64 a1), .own 85 0 0 (x7.2.2.2.length + 1)]]⟩), (12, ⟨79, 3, true, [[.sl 2 (z580.facts.map cF), .c (.int .i64 z580.dist), .c (.int .i64 z580.order)]]⟩), (44, ⟨79, 3, false, x22.2.2.2.map cGEntry⟩), (45, ⟨81, 1, true, [[.own 44 0 0 x22.2.2.2.length]]⟩), (85, ⟨40, 2, false, (x7.2.2.2 ++ [(z580.facts, z580.dist)]).map cN⟩)]) (fun v => o29 = (.inl v)) ?_ ?_
                          · refine aSR ?_; intro _; refine dr ?_; refine aCd ?_; intro _; refine spl h (fun c31 h => ?_) (fun c31 h => ?_)
                            · refine aRg ?_; intro _; refine dr ?_; refine ⟨0, (Option.some.inj h).symm, ?_⟩; exact ca_0
                            · refine aSR ?_; intro _; refine dr ?_; refine aCd ?_; intro _; refine spl h (fun c32 h => ?_) (fun c32 h => ?_)
                              · refine aEx ?_; have j33 := Option.some.inj h; subst j33; replace h := (osum_r hK30); refine ⟨(x22.2.1, x22.2.2.2), (Option.some.inj h).symm, ?_⟩; exact ca_0
                              · refine aSk ?_; refine ⟨(IntKind.i64.wrap (z580.dist + y842.Cost)), (Option.some.inj h).symm, ?_⟩; exact ca_0
                          · rintro v843 ho; have ho := ho.symm; subst ho; intro _; replace h := (osum_l hK30); refine aSR ?_; intro _; obtain ⟨z845, z846, u34, h⟩ := ob2_ok h; refine cl rfl (A_g_Regress g a0 x22.2.2.1 z580.facts u34) ?_; intro _; refine dr ?_; refine aSq ?_; refine aSq ?_; rcases z846 with _ | e847
                            · replace h := erM_nil h; refine aRg ?_; intro _; refine dr ?_; refine aCd ?_; intro _; refine litF ?_; refine aSk ?_; refine aSR ?_; intro _; refine dr ?_; refine aBk ?_; refine awp_loop (α := Nat × Int × Int × (List GEntry)) (fun x => mkS 136 [(1, .c (.int .i64 a1)), (2, .c (.int .i64 (max 0 (min a2 4096)))), (3, .ptr 3 0 0 0), (6, .ptr 6 0 0 0), (9, .ptr 9 0 0 0), (10, .ptr 45 0 0 0), (11, .c (.int .i64 x.2.1)), (12, .ptr 12 0 0 0), (16, .c (.int .i64 v843)), (88, .sl 4 (a0.Ops.map cGOp)), (89, .c (.int .i64 ((a0.Ops.map cGOp).length : Int))), (90, .c (.int .i64 x22.2.2.1)), (117, .sl 1 (z845.map cL_cF)), (118, .c (.int .i64 ((z845.map cL_cF).length : Int))), (119, .c (.int .i64 x.2.2.1))] [(3, ⟨26, 4, true, [[.sl 1 (a0.Vars.map cI), .sl 1 (a0.Init.map cI), .sl 2 (a0.Goal.map cF), .sl 4 (a0.Ops.map cGOp)]]⟩), (6, ⟨31, 2, true, [[.c (.int .i64 0), .c (.slice none 0 0)]]⟩), (9, ⟨31, 2, true, [[.c (.int .i64 a1), .own 85 0 0 (x7.2.2.2.length + 1)]]⟩), (12, ⟨79, 3, true, [[.sl 2 (z580.facts.map cF), .c (.int .i64 z580.dist), .c (.int .i64 z580.order)]]⟩), (44, ⟨79, 3, false, x.2.2.2.map cGEntry⟩), (45, ⟨81, 1, true, [[.own 44 0 0 x.2.2.2.length]]⟩), (85, ⟨40, 2, false, (x7.2.2.2 ++ [(z580.facts, z580.dist)]).map cN⟩)]) (fun x => M_certify_Lower_L1 g v843 z845 x.1 x.2.1 x.2.2.1 x.2.2.2 = some o25) (fun x => x.1) ((((z845.map cL_cF).length : Int)).toNat + 1, x22.2.1, 0, x22.2.2.2) h ?_ ?_
                              · exact ca_0
                              · intro x35 h; intro _; obtain ⟨k858, m36, h⟩ := succ_of (f := fun n => M_certify_Lower_L1 g v843 z845 n x35.2.1 x35.2.2.1 x35.2.2.2) rfl h; replace h : M_certify_Lower_L1 g v843 z845 (k858 + 1) x35.2.1 x35.2.2.1 x35.2.2.2 = some o25 := h; rw [M_certify_Lower_L1] at h; refine aSR ?_; intro _; refine dr ?_; refine aSq ?_; refine aCd ?_; intro _; refine spl h (fun c37 h => ?_) (fun c37 h => ?_)
                                · refine aSk ?_; refine aSq ?_; refine aBk ?_; refine aSR ?_; intro _; obtain ⟨y859, w38, q39, h⟩ := ix_ok h; refine Exists.intro (cL_cF y859) (And.intro (map_at' w38) ?_); intro _; refine pr ?_; refine dr ?_; refine aSR ?_; intro _; obtain ⟨c860, u40, h⟩ := ob1_ok h; refine clg [(14, 45), (0, 44)] [] [(44, ⟨1, none⟩)] [(45, ⟨0, some ⟨81, 1, true, [[.own 44 2 0 c860.length]]⟩⟩), (44, ⟨2, some ⟨79, 3, false, c860.map cGEntry⟩⟩)] (.tup []) rfl rfl (A_container_heap_Push g x35.2.2.2 ({ facts := y859, dist := v843, order := x35.2.1 : GEntry }) u40) ?_; intro _; refine dr ?_; refine aRg ?_; intro _; refine dr ?_; refine aRg ?_; intro _; refine dr ?_; refine ⟨(k858, (IntKind.i64.wrap (x35.2.1 + 1)), (IntKind.i64.wrap (x35.2.2.1 + 1)), c860), h, ltS m36, ?_⟩; exact ca_0
                                · refine aEx ?_; refine ⟨(x35.2.1, x35.2.2.2), (Option.some.inj h).symm, ?_⟩; exact ca_0
                            · replace h := erM_no h; refine aRg ?_; intro _; refine dr ?_; refine aCd ?_; intro _; refine litT ?_; refine aSR ?_; intro _; refine dr ?_; refine aRt ?_; have j41 := Option.some.inj h; subst j41; replace h := (osum_r hK26); have j42 := Option.some.inj h; subst j42; replace h := (osum_r hK21); intro _; obtain ⟨rfl, rfl⟩ := inj2 h; exact ca_0
                        · rintro ⟨v837, v838⟩ ho; have ho := ho.symm; subst ho; intro _; replace h := (osum_l hK26); refine aRg ?_; intro _; refine dr ?_; refine ⟨(k817, v837, (IntKind.i64.wrap (x22.2.2.1 + 1)), v838), h, ltS m23, ?_⟩; exact ca_0
                      · refine aEx ?_; refine ⟨(x22.2.1, x22.2.2.2), (Option.some.inj h).symm, ?_⟩; exact ca_0
                  · rintro ⟨v720, v721⟩ ho; have ho := ho.symm; subst ho; intro _; replace h := (osum_l hK21); refine ⟨(k577, v720, v721, (x7.2.2.2 ++ [(z580.facts, z580.dist)])), h, ltS m8, ?_⟩; exact ca_0
          · refine aEx ?_; refine aSR ?_; intro _; refine dr ?_; refine aRt ?_; obtain ⟨q43, h⟩ := grd_ok h; intro _; obtain ⟨rfl, rfl⟩ := inj2 h; exact ca_0
  · replace h := erM_no h; refine aRg ?_; intro _; refine dr ?_; refine aCd ?_; intro _; refine litT ?_; refine aSR ?_; intro _; refine dr ?_; refine aRt ?_; intro _; obtain ⟨rfl, rfl⟩ := inj2 h; exact ca_0
def M_b_Facts_L1 (a0 : List Fact) (a1 : List Fact) : Nat → Int → Option (Bool)
  | 0, _ => none
  | k7 + 1, v6 =>
    sel (decide (v6 < ((a0.map cF).length : Int)))
     (ix a0 v6 (fun y8 =>
       ix a1 v6 (fun y9 =>
        sel (!(y8.1 == y9.1 && y8.2 == y9.2))
         (some false)
         (M_b_Facts_L1 a0 a1 k7 (IntKind.i64.wrap (v6 + 1))))))
     (some true)
def M_b_Facts (a0 : List Fact) (a1 : List Fact) : Option (Bool) :=
  sel (((a0.map cF).length : Int) != ((a1.map cF).length : Int))
   (some false)
   (M_b_Facts_L1 a0 a1 ((((a0.map cF).length : Int)).toNat + 1) 0)
theorem A_b_Facts (a0 : List Fact) (a1 : List Fact) {r1 : Bool} (h : M_b_Facts a0 a1 = some r1) : ACall cx 36 [.sl 2 (a0.map cF), .sl 2 (a1.map cF)] (.c (.bool r1)) := by
  refine aOf Tryz.func36 rfl (by decide) rfl (Nat.le_of_ble_eq_true rfl) ?_; intro _; unfold M_b_Facts at h; refine aSR ?_; intro _; refine dr ?_; refine aSq ?_; refine aSR ?_; intro _; refine dr ?_; refine aCd ?_; intro _; refine spl h (fun c1 h => ?_) (fun c1 h => ?_)
  · refine aSR ?_; intro _; refine dr ?_; refine aRt ?_; intro _; obtain rfl := inj1 h; exact ca_0
  · refine aSk ?_; refine aSq ?_; refine aSR ?_; intro _; refine dr ?_; refine aBk ?_; refine awp_loop (α := Nat × Int) (fun x => mkS 26 [(0, .sl 2 (a0.map cF)), (1, .sl 2 (a1.map cF)), (12, .c (.int .i64 ((a0.map cF).length : Int))), (13, .c (.int .i64 x.2))] []) (fun x => M_b_Facts_L1 a0 a1 x.1 x.2 = some r1) (fun x => x.1) ((((a0.map cF).length : Int)).toNat + 1, 0) h ?_ ?_
    · exact ca_0
    · intro x2 h; intro _; obtain ⟨k7, m3, h⟩ := succ_of (f := fun n => M_b_Facts_L1 a0 a1 n x2.2) rfl h; replace h : M_b_Facts_L1 a0 a1 (k7 + 1) x2.2 = some r1 := h; rw [M_b_Facts_L1] at h; refine aSR ?_; intro _; refine dr ?_; refine aSq ?_; refine aCd ?_; intro _; refine spl h (fun c4 h => ?_) (fun c4 h => ?_)
      · refine aSk ?_; refine aSq ?_; refine aBk ?_; refine aSR ?_; intro _; refine dr ?_; refine aSR ?_; intro _; obtain ⟨y8, w5, q6, h⟩ := ix_ok h; refine Exists.intro (cF y8) (And.intro (map_at' w5) ?_); intro _; obtain ⟨y9, w7, q8, h⟩ := ix_ok h; refine Exists.intro (cF y9) (And.intro (map_at' w7) ?_); intro _; refine ⟨_, lf_eq2 rfl (Nat.le_of_ble_eq_true rfl) rfl rfl (eqFact _ _ _ _) (eqFactG _ _ _ _ _ _ _) (.inr ⟨rfl, rfl⟩), ?_⟩; intro _; refine pr ?_; refine pr ?_; refine dr ?_; refine aCd ?_; intro _; refine spl h (fun c9 h => ?_) (fun c9 h => ?_)
        · refine aSR ?_; intro _; refine dr ?_; refine aRt ?_; intro _; obtain rfl := inj1 h; exact ca_0
        · refine aSk ?_; refine aRg ?_; intro _; refine dr ?_; refine ⟨(k7, (IntKind.i64.wrap (x2.2 + 1))), h, ltS m3, ?_⟩; exact ca_0
      · refine aEx ?_; refine aSR ?_; intro _; refine dr ?_; refine aRt ?_; intro _; obtain rfl := inj1 h; exact ca_0
def M_l32_awake (g : Nat) : Option (Bool) :=
  ob2 (M_certify_Lower g ({ Vars := [2], Init := [0], Goal := [(0, 1)], Ops := [{ Name := (⟨#[]⟩ : ByteArray), Cost := 2, Pre := [], Effs := [{ When := [], Var := 0, Val := 1 : GEffect }] : GOp }] : GTask }) 2 10) (fun z1 z2 =>
   ob2 (M_certify_Lower g ({ Vars := [2], Init := [0], Goal := [(0, 1)], Ops := [{ Name := (⟨#[]⟩ : ByteArray), Cost := 2, Pre := [], Effs := [{ When := [], Var := 0, Val := 1 : GEffect }] : GOp }] : GTask }) 3 10) (fun _ z4 =>
    erM z2
     (sel (z1.Bound == 2)
       (sel (((z1.Nogoods.map cN).length : Int) == 1)
         (ix z1.Nogoods 0 (fun y6 =>
           ob1 (M_b_Facts y6.1 [(0, 1)]) (fun z7 =>
            sel z7
             (ob1 (M_b_Is z4 13) (fun z8 =>
               some z8))
             (some false))))
         (some false))
       (some false))
     (fun _ => some false)))
theorem A_l32_awake (g : Nat) {r1 : Bool} (h : M_l32_awake g = some r1) : ACall cx 12 [] (.c (.bool r1)) := by
  refine aOf Tryz.func12 rfl (by decide) rfl (Nat.le_of_ble_eq_true rfl) ?_; intro _; unfold M_l32_awake at h; refine aSR ?_; intro _; refine dr ?_; refine aSR ?_; intro _; refine dr ?_; refine aSR ?_; intro _; refine dr ?_; refine aSq ?_; refine awp_wk (mkS 53 [(1, .sl 2 ([(0, 1)].map cF)), (2, .ptr 2 0 0 0)] [(2, ⟨26, 4, true, [[.sl 1 ([2].map cI), .sl 1 ([0].map cI), .sl 2 ([(0, 1)].map cF), .sl 4 ([{ Name := (⟨#[]⟩ : ByteArray), Cost := 2, Pre := [], Effs := [{ When := [], Var := 0, Val := 1 : GEffect }] : GOp }].map cGOp)]]⟩)]) ?_ ?_
  · exact ca_0
  · intro _; refine aRg ?_; intro _; obtain ⟨z1, z2, u1, h⟩ := ob2_ok h; refine cl rfl (A_certify_Lower g ({ Vars := [2], Init := [0], Goal := [(0, 1)], Ops := [{ Name := (⟨#[]⟩ : ByteArray), Cost := 2, Pre := [], Effs := [{ When := [], Var := 0, Val := 1 : GEffect }] : GOp }] : GTask }) 2 10 u1) ?_; intro _; refine dr ?_; refine aSR ?_; intro _; obtain ⟨z3, z4, u2, h⟩ := ob2_ok h; refine cl rfl (A_certify_Lower g ({ Vars := [2], Init := [0], Goal := [(0, 1)], Ops := [{ Name := (⟨#[]⟩ : ByteArray), Cost := 2, Pre := [], Effs := [{ When := [], Var := 0, Val := 1 : GEffect }] : GOp }] : GTask }) 3 10 u2) ?_; intro _; refine dr ?_; refine aSq ?_; rcases z2 with _ | e5
    · replace h := erM_nil h; refine aRg ?_; intro _; refine litT ?_; intro _; refine spl h (fun c3 h => ?_) (fun c3 h => ?_)
      · intro _; refine spl h (fun c4 h => ?_) (fun c4 h => ?_)
        · intro _; obtain ⟨y6, w5, q6, h⟩ := ix_ok h; refine Exists.intro (cN y6) (And.intro (map_at' w5) ?_); intro _; obtain ⟨z7, u7, h⟩ := ob1_ok h; refine cl rfl (A_b_Facts y6.1 [(0, 1)] u7) ?_; intro _; refine spl h (fun c8 h => ?_) (fun c8 h => ?_)
          · intro _; obtain ⟨z8, u9, h⟩ := ob1_ok h; refine cl rfl (A_b_Is z4 13 u9) ?_; intro _; refine pr ?_; refine dr ?_; refine aRt ?_; intro _; obtain rfl := inj1 h; exact ca_0
          · intro _; refine pr ?_; refine dr ?_; refine aRt ?_; intro _; obtain rfl := inj1 h; exact ca_0
        · intro _; refine dr ?_; refine aRt ?_; intro _; obtain rfl := inj1 h; exact ca_0
      · intro _; refine dr ?_; refine aRt ?_; intro _; obtain rfl := inj1 h; exact ca_0
    · replace h := erM_no h; refine aRg ?_; intro _; refine litF ?_; intro _; refine dr ?_; refine aRt ?_; intro _; obtain rfl := inj1 h; exact ca_0
end Go.Proofs.YtohjegemooakpaaGreat.Am
/- Models printed by my decompiler, and the proofs that the code computes them. -/
namespace Go.Proofs.YtohjegemooakpaaGreat.Am
set_option maxHeartbeats 16000000
set_option maxRecDepth 100000
open Go.RowKit
def M_p_Covered_1 (b0 : List Int) (a0 : List Fact) : Option (Bool) :=
  ob1 (M_task_Facts b0 a0) (fun z1 =>
   some (!z1))
theorem A_p_Covered_1 (b0 : List Int) (a0 : List Fact) {r1 : Bool} (h : M_p_Covered_1 b0 a0 = some r1) : ACall cx 121 [.sl 2 (a0.map cF), .pim [.sl 1 (b0.map cI)] 0] (.c (.bool r1)) := by
  refine aOf Tryz.func121 rfl (by decide) rfl (Nat.le_of_ble_eq_true rfl) ?_; intro _; unfold M_p_Covered_1 at h; refine aSR ?_; intro _; refine dr ?_; refine aSR ?_; intro _; obtain ⟨z1, u1, h⟩ := ob1_ok h; refine cl rfl (A_task_Facts b0 a0 u1) ?_; intro _; refine dr ?_; refine aRt ?_; intro _; obtain rfl := inj1 h; exact ca_0
def M_p_conflict_L1 (a0 : List Fact) (a1 : List Fact) : Nat → Int → Option (Bool)
  | 0, _ => none
  | k7 + 1, v6 =>
    sel (decide (v6 < ((a1.map cF).length : Int)))
     (ix a1 v6 (fun y8 =>
       ob1 (M_p_find a0 y8.1) (fun z9 =>
        sel (decide (z9 ≥ 0))
         (sel (z9 != y8.2)
           (some true)
           (M_p_conflict_L1 a0 a1 k7 (IntKind.i64.wrap (v6 + 1))))
         (M_p_conflict_L1 a0 a1 k7 (IntKind.i64.wrap (v6 + 1))))))
     (some false)
def M_p_conflict (a0 : List Fact) (a1 : List Fact) : Option (Bool) :=
  M_p_conflict_L1 a0 a1 ((((a1.map cF).length : Int)).toNat + 1) 0
theorem A_p_conflict (a0 : List Fact) (a1 : List Fact) {r1 : Bool} (h : M_p_conflict a0 a1 = some r1) : ACall cx 131 [.sl 2 (a0.map cF), .sl 2 (a1.map cF)] (.c (.bool r1)) := by
  refine aOf Tryz.func131 rfl (by decide) rfl (Nat.le_of_ble_eq_true rfl) ?_; intro _; unfold M_p_conflict at h; refine aSR ?_; intro _; refine dr ?_; refine aSq ?_; refine aSR ?_; intro _; refine dr ?_; refine aBk ?_; refine awp_loop (α := Nat × Int) (fun x => mkS 27 [(0, .sl 2 (a0.map cF)), (8, .sl 2 (a1.map cF)), (9, .c (.int .i64 ((a1.map cF).length : Int))), (10, .c (.int .i64 x.2))] []) (fun x => M_p_conflict_L1 a0 a1 x.1 x.2 = some r1) (fun x => x.1) ((((a1.map cF).length : Int)).toNat + 1, 0) h ?_ ?_
  · exact ca_0
  · intro x1 h; intro _; obtain ⟨k7, m2, h⟩ := succ_of (f := fun n => M_p_conflict_L1 a0 a1 n x1.2) rfl h; replace h : M_p_conflict_L1 a0 a1 (k7 + 1) x1.2 = some r1 := h; rw [M_p_conflict_L1] at h; refine aSR ?_; intro _; refine dr ?_; refine aSq ?_; refine aCd ?_; intro _; refine spl h (fun c3 h => ?_) (fun c3 h => ?_)
    · refine aSk ?_; refine aSq ?_; refine aBk ?_; refine aSR ?_; intro _; obtain ⟨y8, w4, q5, h⟩ := ix_ok h; refine Exists.intro (cF y8) (And.intro (map_at' w4) ?_); intro _; refine pr ?_; refine dr ?_; refine aSR ?_; intro _; obtain ⟨z9, u6, h⟩ := ob1_ok h; refine cl rfl (A_p_find a0 y8.1 u6) ?_; intro _; refine dr ?_; refine aSR ?_; intro _; refine spl h (fun c7 h => ?_) (fun c7 h => ?_)
      · intro _; refine dr ?_; refine aCd ?_; intro _; refine spl h (fun c8 h => ?_) (fun c8 h => ?_)
        · refine aSR ?_; intro _; refine dr ?_; refine aRt ?_; intro _; obtain rfl := inj1 h; exact ca_0
        · refine aSk ?_; refine aRg ?_; intro _; refine dr ?_; refine ⟨(k7, (IntKind.i64.wrap (x1.2 + 1))), h, ltS m2, ?_⟩; exact ca_0
      · intro _; refine dr ?_; refine aCd ?_; intro _; refine litF ?_; refine aSk ?_; refine aRg ?_; intro _; refine dr ?_; refine ⟨(k7, (IntKind.i64.wrap (x1.2 + 1))), h, ltS m2, ?_⟩; exact ca_0
    · refine aEx ?_; refine aSR ?_; intro _; refine dr ?_; refine aRt ?_; intro _; obtain rfl := inj1 h; exact ca_0
def M_pc_decide_L1 (a0 : GCover) (a1 : List Fact) (a2 : List (List Fact)) : Nat → Int → (List (List Fact)) → Option ((List (List Fact)) ⊕ (Bool × GCover))
  | 0, _, _ => none
  | k29 + 1, v27, v28 =>
    sel (decide (v27 < ((a2.map cL_cF).length : Int)))
     (ix a2 v27 (fun y30 =>
       ob1 (M_p_contains a1 y30) (fun z31 =>
        sel z31
         (some (.inr (true, { vars := a0.vars, used := (IntKind.i64.wrap (a0.used + 1)), steps := a0.steps, full := a0.full : GCover })))
         (ob1 (M_p_conflict a1 y30) (fun z32 =>
           sel (!z32)
            (grd ((v28.length + 1) * 24 ≤ 140737488355328) (M_pc_decide_L1 a0 a1 a2 k29 (IntKind.i64.wrap (v27 + 1)) (v28 ++ [y30])))
            (M_pc_decide_L1 a0 a1 a2 k29 (IntKind.i64.wrap (v27 + 1)) v28))))))
     (some (.inl v28))
def M_pc_decide_L2 (a1 : List Fact) (y189 : List Fact) : Nat → Int → Int → Option (Int)
  | 0, _, _ => none
  | k198 + 1, v196, v197 =>
    sel (decide (v197 < ((y189.map cF).length : Int)))
     (ix y189 v197 (fun y199 =>
       sel (decide (y199.1 < v196))
        (ob1 (M_p_find a1 y199.1) (fun z200 =>
          sel (decide (z200 < 0))
           (M_pc_decide_L2 a1 y189 k198 y199.1 (IntKind.i64.wrap (v197 + 1)))
           (M_pc_decide_L2 a1 y189 k198 v196 (IntKind.i64.wrap (v197 + 1)))))
        (M_pc_decide_L2 a1 y189 k198 v196 (IntKind.i64.wrap (v197 + 1)))))
     (some v196)
def M_pc_decide_L3 (a1 : List Fact) (v15 : List (List Fact)) : Nat → Int → Int → Option (Int)
  | 0, _, _ => none
  | k174 + 1, v172, v173 =>
    sel (decide (v173 < ((v15.length : Nat) : Int)))
     (ob1 (ixn v15 ((v173).toNat) (fun y189 =>
        grd (0 ≤ v173) (grd (v173 < ((v15.length : Nat) : Int)) (M_pc_decide_L2 a1 y189 ((((y189.map cF).length : Int)).toNat + 1) v172 0))) : Option (Int))
       (fun v187 => M_pc_decide_L3 a1 v15 k174 v187 (IntKind.i64.wrap (v173 + 1))))
     (some v172)
def M_pc_decide_L4 (a1 : List Fact) (rec : GCover → (List Fact) → (List (List Fact)) → Option (Bool × GCover)) (v116 : Int) (y201 : Int) : Nat → (List (List Fact)) → Int → (List Int) → Int → Int → Bool → Option (Bool × GCover)
  | 0, _, _, _, _, _, _ => none
  | k221 + 1, v215, v216, v217, v218, v219, v220 =>
    sel (decide (v216 < y201))
     (ob1 (M_with a1 (v116, v216)) (fun z222 =>
       grd (z222.length ≤ 140737488355328) (ob2 (rec ({ vars := v217, used := v218, steps := v219, full := v220 : GCover }) z222 v215) (fun z223 c224 =>
        sel (!z223)
         (some (false, c224))
         (M_pc_decide_L4 a1 rec v116 y201 k221 v215 (IntKind.i64.wrap (v216 + 1)) c224.vars c224.used c224.steps c224.full)))))
     (some (true, { vars := v217, used := v218, steps := v219, full := v220 : GCover }))
def M_pc_decide : Nat → GCover → (List Fact) → (List (List Fact)) → Option (Bool × GCover)
  | 0, _, _, _ => none
  | g + 1, a0, a1, a2 =>
    sel (decide (a0.used ≥ a0.steps))
   (some (false, { vars := a0.vars, used := a0.used, steps := a0.steps, full := true : GCover }))
   (ob1 (M_pc_decide_L1 a0 a1 a2 ((((a2.map cL_cF).length : Int)).toNat + 1) 0 [] : Option ((List (List Fact)) ⊕ (Bool × GCover)))
     (osum
     (fun v15 => ob1 (M_pc_decide_L3 a1 v15 ((((v15.length : Nat) : Int)).toNat + 1) ((a0.vars.map cI).length : Int) 0 : Option (Int))
        (fun v116 => sel (v116 == ((a0.vars.map cI).length : Int))
           (some (false, { vars := a0.vars, used := (IntKind.i64.wrap (a0.used + 1)), steps := a0.steps, full := a0.full : GCover }))
           (ix a0.vars v116 (fun y201 =>
             grd (v15.length ≤ 140737488355328) (M_pc_decide_L4 a1 (M_pc_decide g) v116 y201 ((y201).toNat + 1) v15 0 a0.vars (IntKind.i64.wrap (a0.used + 1)) a0.steps a0.full)))))
     (fun (r16, r17) => some (r16, r17))))
theorem A_pc_decide : ∀ (g : Nat) (a0 : GCover) (a1 : List Fact) (a2 : List (List Fact)) {r1 : Bool} {r2 : GCover} (_ : M_pc_decide g a0 a1 a2 = some (r1, r2)), ACallG cx 122 [.ptr 112 0 0 0, .sl 2 (a1.map cF), .sl 1 (a2.map cL_cF)] [(112, ⟨171, 4, true, [[.sl 1 (a0.vars.map cI), .c (.int .i64 a0.used), .c (.int .i64 a0.steps), .c (.bool a0.full)]]⟩)] [112] (.c (.bool r1)) [(112, ⟨171, 4, true, [[.sl 1 (r2.vars.map cI), .c (.int .i64 r2.used), .c (.int .i64 r2.steps), .c (.bool r2.full)]]⟩)]
  := by
  intro g
  induction g with
  | zero => intros; rename_i h; rw [M_pc_decide] at h; cases h
  | succ g ih =>
    intro a0 a1 a2 r1 r2 h; refine acallg_of 115 Tryz.func122 rfl (by decide) rfl (Nat.le_of_ble_eq_true rfl) rfl rfl ?_; intro _; rw [M_pc_decide] at h; refine aSR ?_; intro _; refine dr ?_; refine aSq ?_; refine aSR ?_; intro _; refine dr ?_; refine aCd ?_; intro _; refine spl h (fun c1 h => ?_) (fun c1 h => ?_)
    · refine aSR ?_; intro _; refine dr ?_; refine aSR ?_; intro _; refine dr ?_; refine aRt ?_; intro _; obtain ⟨rfl, rfl⟩ := inj2 h; all_goals (refine Exists.intro [] (And.intro rfl (And.intro ?_ ?_))); all_goals (exact zg_0)
    · refine aSk ?_; refine aSR ?_; intro _; refine dr ?_; refine aSR ?_; intro _; refine dr ?_; obtain ⟨o2, h, hK3⟩ := ob1_ok h; refine awp_cut (α := List (List Fact)) (fun v15 => mkG 112 115 [(0, .ptr 112 0 0 0), (1, .sl 2 (a1.map cF)), (7, .own 51 0 0 v15.length)] [(51, ⟨23, 1, false, v15.map cL_cF⟩), (112, ⟨171, 4, true, [[.sl 1 (a0.vars.map cI), .c (.int .i64 (IntKind.i64.wrap (a0.used + 1))), .c (.int .i64 a0.steps), .c (.bool a0.full)]]⟩)]) (fun v => o2 = (.inl v)) ?_ ?_
      · refine aSR ?_; intro _; refine dr ?_; refine aBk ?_; refine awp_loop (α := Nat × Int × (List (List Fact))) (fun x => mkG 112 115 [(0, .ptr 112 0 0 0), (1, .sl 2 (a1.map cF)), (7, .own 51 0 0 x.2.2.length), (35, .sl 1 (a2.map cL_cF)), (36, .c (.int .i64 ((a2.map cL_cF).length : Int))), (37, .c (.int .i64 x.2.1))] [(51, ⟨23, 1, false, x.2.2.map cL_cF⟩), (112, ⟨171, 4, true, [[.sl 1 (a0.vars.map cI), .c (.int .i64 (IntKind.i64.wrap (a0.used + 1))), .c (.int .i64 a0.steps), .c (.bool a0.full)]]⟩)]) (fun x => M_pc_decide_L1 a0 a1 a2 x.1 x.2.1 x.2.2 = some o2) (fun x => x.1) ((((a2.map cL_cF).length : Int)).toNat + 1, 0, []) h ?_ ?_
        · exact ca_0
        · intro x4 h; intro _; obtain ⟨k29, m5, h⟩ := succ_of (f := fun n => M_pc_decide_L1 a0 a1 a2 n x4.2.1 x4.2.2) rfl h; replace h : M_pc_decide_L1 a0 a1 a2 (k29 + 1) x4.2.1 x4.2.2 = some o2 := h; rw [M_pc_decide_L1] at h; refine aSR ?_; intro _; refine dr ?_; refine aSq ?_; refine aCd ?_; intro _; refine spl h (fun c6 h => ?_) (fun c6 h => ?_)
          · refine aSk ?_; refine aSq ?_; refine aBk ?_; refine aSR ?_; intro _; obtain ⟨y30, w7, q8, h⟩ := ix_ok h; refine Exists.intro (cL_cF y30) (And.intro (map_at' w7) ?_); intro _; refine pr ?_; refine dr ?_; refine aSq ?_; refine aSR ?_; intro _; obtain ⟨z31, u9, h⟩ := ob1_ok h; refine cl rfl (A_p_contains a1 y30 u9) ?_; intro _; refine dr ?_; refine aCd ?_; intro _; refine spl h (fun c10 h => ?_) (fun c10 h => ?_)
            · refine aSR ?_; intro _; refine dr ?_; refine aRt ?_; have j11 := Option.some.inj h; subst j11; replace h := (osum_r hK3); intro _; obtain ⟨rfl, rfl⟩ := inj2 h; all_goals (refine Exists.intro [] (And.intro rfl (And.intro ?_ ?_))); all_goals (exact zg_0)
            · refine aSk ?_; refine aSR ?_; intro _; obtain ⟨z32, u12, h⟩ := ob1_ok h; refine cl rfl (A_p_conflict a1 y30 u12) ?_; intro _; refine dr ?_; refine aCd ?_; intro _; refine spl h (fun c13 h => ?_) (fun c13 h => ?_)
              · refine aRg ?_; intro _; obtain ⟨q14, h⟩ := grd_ok h; refine pl ?_; refine pl ?_; refine And.intro (by first | with_reducible assumption | (show (x4.2.2.length + 1) * 24 ≤ 140737488355328; with_reducible assumption) | omega | (simp; omega)) ?_; refine pe ?_; refine dr ?_; refine aRg ?_; intro _; refine dr ?_; refine ⟨(k29, (IntKind.i64.wrap (x4.2.1 + 1)), (x4.2.2 ++ [y30])), h, ltS m5, ?_⟩; exact ca_0
              · refine aSk ?_; refine aRg ?_; intro _; refine dr ?_; refine ⟨(k29, (IntKind.i64.wrap (x4.2.1 + 1)), x4.2.2), h, ltS m5, ?_⟩; exact ca_0
          · refine aEx ?_; refine ⟨x4.2.2, (Option.some.inj h).symm, ?_⟩; exact ca_0
      · rintro v15 ho; have ho := ho.symm; subst ho; intro _; replace h := (osum_l hK3); refine aSR ?_; intro _; refine dr ?_; obtain ⟨o15, h, hK16⟩ := ob1_ok h; refine awp_cut (α := Int) (fun v116 => mkG 112 115 [(0, .ptr 112 0 0 0), (1, .sl 2 (a1.map cF)), (7, .own 51 0 0 v15.length), (10, .c (.int .i64 v116))] [(51, ⟨23, 1, false, v15.map cL_cF⟩), (112, ⟨171, 4, true, [[.sl 1 (a0.vars.map cI), .c (.int .i64 (IntKind.i64.wrap (a0.used + 1))), .c (.int .i64 a0.steps), .c (.bool a0.full)]]⟩)]) (fun v => o15 = v) ?_ ?_
        · refine aSR ?_; intro _; refine dr ?_; refine aBk ?_; refine awp_loop (α := Nat × Int × Int) (fun x => mkG 112 115 [(0, .ptr 112 0 0 0), (1, .sl 2 (a1.map cF)), (7, .own 51 0 0 v15.length), (10, .c (.int .i64 x.2.1)), (58, .own 51 0 0 v15.length), (59, .c (.int .i64 ((v15.length : Nat) : Int))), (60, .c (.int .i64 x.2.2))] [(51, ⟨23, 1, false, v15.map cL_cF⟩), (112, ⟨171, 4, true, [[.sl 1 (a0.vars.map cI), .c (.int .i64 (IntKind.i64.wrap (a0.used + 1))), .c (.int .i64 a0.steps), .c (.bool a0.full)]]⟩)]) (fun x => M_pc_decide_L3 a1 v15 x.1 x.2.1 x.2.2 = some o15) (fun x => x.1) ((((v15.length : Nat) : Int)).toNat + 1, ((a0.vars.map cI).length : Int), 0) h ?_ ?_
          · exact ca_0
          · intro x17 h; intro _; obtain ⟨k174, m18, h⟩ := succ_of (f := fun n => M_pc_decide_L3 a1 v15 n x17.2.1 x17.2.2) rfl h; replace h : M_pc_decide_L3 a1 v15 (k174 + 1) x17.2.1 x17.2.2 = some o15 := h; rw [M_pc_decide_L3] at h; refine aSR ?_; intro _; refine dr ?_; refine aSq ?_; refine aCd ?_; intro _; refine spl h (fun c19 h => ?_) (fun c19 h => ?_)
            · refine aSk ?_; obtain ⟨o20, h, hK21⟩ := ob1_ok h; refine awp_cut (α := Int) (fun v187 => mkG 112 115 [(0, .ptr 112 0 0 0), (1, .sl 2 (a1.map cF)), (7, .own 51 0 0 v15.length), (10, .c (.int .i64 v187)), (58, .own 51 0 0 v15.length), (59, .c (.int .i64 ((v15.length : Nat) : Int))), (60, .c (.int .i64 x17.2.2))] [(51, ⟨23, 1, false, v15.map cL_cF⟩), (112, ⟨171, 4, true, [[.sl 1 (a0.vars.map cI), .c (.int .i64 (IntKind.i64.wrap (a0.used + 1))), .c (.int .i64 a0.steps), .c (.bool a0.full)]]⟩)]) (fun v => o20 = v) ?_ ?_
              · refine aBk ?_; refine aSR ?_; intro _; obtain ⟨y189, w22, h⟩ := ixn_ok h; refine Exists.intro (cL_cF y189) (And.intro (by first | exact map_at' w22 | (have w := map_at' (f := cL_cF) w22; simpa [cGEntry, cF, cGTask, cI, cGOp, cGEffect, cL_cF, cL_cL_cF, cL_cI, cGCertificate, cN, cGCover, cGChecker] using w)) ?_); intro _; obtain ⟨q23, h⟩ := grd_ok h; obtain ⟨q24, h⟩ := grd_ok h; refine pr ?_; refine pr ?_; refine dr ?_; refine aSR ?_; intro _; refine dr ?_; refine aBk ?_; refine awp_loop (α := Nat × Int × Int) (fun x => mkG 112 115 [(0, .ptr 112 0 0 0), (1, .sl 2 (a1.map cF)), (7, .own 51 0 0 v15.length), (10, .c (.int .i64 x.2.1)), (58, .own 51 0 0 v15.length), (59, .c (.int .i64 ((v15.length : Nat) : Int))), (60, .c (.int .i64 x17.2.2)), (64, .sl 2 (y189.map cF)), (65, .c (.int .i64 ((y189.map cF).length : Int))), (66, .c (.int .i64 x.2.2))] [(51, ⟨23, 1, false, v15.map cL_cF⟩), (112, ⟨171, 4, true, [[.sl 1 (a0.vars.map cI), .c (.int .i64 (IntKind.i64.wrap (a0.used + 1))), .c (.int .i64 a0.steps), .c (.bool a0.full)]]⟩)]) (fun x => M_pc_decide_L2 a1 y189 x.1 x.2.1 x.2.2 = some o20) (fun x => x.1) ((((y189.map cF).length : Int)).toNat + 1, x17.2.1, 0) h ?_ ?_
                · exact ca_0
                · intro x25 h; intro _; obtain ⟨k198, m26, h⟩ := succ_of (f := fun n => M_pc_decide_L2 a1 y189 n x25.2.1 x25.2.2) rfl h; replace h : M_pc_decide_L2 a1 y189 (k198 + 1) x25.2.1 x25.2.2 = some o20 := h; rw [M_pc_decide_L2] at h; refine aSR ?_; intro _; refine dr ?_; refine aSq ?_; refine aCd ?_; intro _; refine spl h (fun c27 h => ?_) (fun c27 h => ?_)
                  · refine aSk ?_; refine aSq ?_; refine aBk ?_; refine aSR ?_; intro _; obtain ⟨y199, w28, q29, h⟩ := ix_ok h; refine Exists.intro (cF y199) (And.intro (map_at' w28) ?_); intro _; refine pr ?_; refine dr ?_; refine aSR ?_; intro _; refine spl h (fun c30 h => ?_) (fun c30 h => ?_)
                    · intro _; obtain ⟨z200, u31, h⟩ := ob1_ok h; refine cl rfl (A_p_find a1 y199.1 u31) ?_; intro _; refine dr ?_; refine aCd ?_; intro _; refine spl h (fun c32 h => ?_) (fun c32 h => ?_)
                      · refine aRg ?_; intro _; refine dr ?_; refine aRg ?_; intro _; refine dr ?_; refine ⟨(k198, y199.1, (IntKind.i64.wrap (x25.2.2 + 1))), h, ltS m26, ?_⟩; exact ca_0
                      · refine aSk ?_; refine aRg ?_; intro _; refine dr ?_; refine ⟨(k198, x25.2.1, (IntKind.i64.wrap (x25.2.2 + 1))), h, ltS m26, ?_⟩; exact ca_0
                    · intro _; refine dr ?_; refine aCd ?_; intro _; refine litF ?_; refine aSk ?_; refine aRg ?_; intro _; refine dr ?_; refine ⟨(k198, x25.2.1, (IntKind.i64.wrap (x25.2.2 + 1))), h, ltS m26, ?_⟩; exact ca_0
                  · refine aEx ?_; refine ⟨x25.2.1, (Option.some.inj h).symm, ?_⟩; exact ca_0
              · rintro v187 ho; have ho := ho.symm; subst ho; intro _; replace h := hK21; refine aRg ?_; intro _; refine dr ?_; refine ⟨(k174, v187, (IntKind.i64.wrap (x17.2.2 + 1))), h, ltS m18, ?_⟩; exact ca_0
            · refine aEx ?_; refine ⟨x17.2.1, (Option.some.inj h).symm, ?_⟩; exact ca_0
        · rintro v116 ho; have ho := ho.symm; subst ho; intro _; replace h := hK16; refine aSq ?_; refine aSR ?_; intro _; refine dr ?_; refine aCd ?_; intro _; refine spl h (fun c33 h => ?_) (fun c33 h => ?_)
          · refine aSR ?_; intro _; refine dr ?_; refine aRt ?_; intro _; obtain ⟨rfl, rfl⟩ := inj2 h; all_goals (refine Exists.intro [] (And.intro rfl (And.intro ?_ ?_))); all_goals (exact zg_0)
          · refine aSk ?_; refine aSq ?_; refine aSR ?_; intro _; obtain ⟨y201, w34, q35, h⟩ := ix_ok h; refine Exists.intro (cI y201) (And.intro (map_at' w34) ?_); intro _; refine pr ?_; refine dr ?_; refine aBk ?_; obtain ⟨q36, h⟩ := grd_ok h; refine awp_loop (α := Nat × (List (List Fact)) × Int × (List Int) × Int × Int × Bool) (fun x => mkG 112 115 [(0, .ptr 112 0 0 0), (1, .sl 2 (a1.map cF)), (7, .sl 1 (x.2.1.map cL_cF)), (10, .c (.int .i64 v116)), (98, .c (.int .i64 y201)), (99, .c (.int .i64 x.2.2.1))] [(112, ⟨171, 4, true, [[.sl 1 (x.2.2.2.1.map cI), .c (.int .i64 x.2.2.2.2.1), .c (.int .i64 x.2.2.2.2.2.1), .c (.bool x.2.2.2.2.2.2)]]⟩)]) (fun x => M_pc_decide_L4 a1 (M_pc_decide g) v116 y201 x.1 x.2.1 x.2.2.1 x.2.2.2.1 x.2.2.2.2.1 x.2.2.2.2.2.1 x.2.2.2.2.2.2 = some (r1, r2)) (fun x => x.1) ((y201).toNat + 1, v15, 0, a0.vars, (IntKind.i64.wrap (a0.used + 1)), a0.steps, a0.full) h ?_ ?_
            · exact ca_0
            · intro x37 h; intro _; obtain ⟨k221, m38, h⟩ := succ_of (f := fun n => M_pc_decide_L4 a1 (M_pc_decide g) v116 y201 n x37.2.1 x37.2.2.1 x37.2.2.2.1 x37.2.2.2.2.1 x37.2.2.2.2.2.1 x37.2.2.2.2.2.2) rfl h; replace h : M_pc_decide_L4 a1 (M_pc_decide g) v116 y201 (k221 + 1) x37.2.1 x37.2.2.1 x37.2.2.2.1 x37.2.2.2.2.1 x37.2.2.2.2.2.1 x37.2.2.2.2.2.2 = some (r1, r2) := h; rw [M_pc_decide_L4] at h; refine aSR ?_; intro _; refine dr ?_; refine aSq ?_; refine aCd ?_; intro _; refine spl h (fun c39 h => ?_) (fun c39 h => ?_)
              · refine aSk ?_; refine aSq ?_; refine aBk ?_; refine aSR ?_; intro _; refine dr ?_; refine aSR ?_; intro _; obtain ⟨z222, u40, h⟩ := ob1_ok h; refine clg [(0, 107)] [] [] [(107, ⟨2, some ⟨68, 2, false, z222.map cF⟩⟩)] (.own 107 2 0 z222.length) rfl rfl (A_with a1 (v116, x37.2.2.1) u40) ?_; intro _; obtain ⟨q41, h⟩ := grd_ok h; obtain ⟨z223, c224, u42, h⟩ := ob2_ok h; refine clg [(112, 112)] [107] [(107, ⟨3, none⟩)] [(112, ⟨0, some ⟨171, 4, true, [[.sl 1 (c224.vars.map cI), .c (.int .i64 c224.used), .c (.int .i64 c224.steps), .c (.bool c224.full)]]⟩⟩)] (.c (.bool z223)) rfl rfl (ih ({ vars := x37.2.2.2.1, used := x37.2.2.2.2.1, steps := x37.2.2.2.2.2.1, full := x37.2.2.2.2.2.2 : GCover }) z222 x37.2.1 u42) ?_; intro _; refine dr ?_; refine aCd ?_; intro _; refine spl h (fun c43 h => ?_) (fun c43 h => ?_)
                · refine aSR ?_; intro _; refine dr ?_; refine aRt ?_; intro _; obtain ⟨rfl, rfl⟩ := inj2 h; all_goals (refine Exists.intro [] (And.intro rfl (And.intro ?_ ?_))); all_goals (exact zg_0)
                · refine aSk ?_; refine aRg ?_; intro _; refine dr ?_; refine ⟨(k221, x37.2.1, (IntKind.i64.wrap (x37.2.2.1 + 1)), c224.vars, c224.used, c224.steps, c224.full), h, ltS m38, ?_⟩; exact ca_0
              · refine aEx ?_; refine aSR ?_; intro _; refine dr ?_; refine aRt ?_; intro _; obtain ⟨rfl, rfl⟩ := inj2 h; all_goals (refine Exists.intro [] (And.intro rfl (And.intro ?_ ?_))); all_goals (exact zg_0)
def M_p_Covered (g : Nat) (a0 : List Int) (a1 : List Fact) (a2 : List (List Fact)) (a3 : Int) : Option (Bool × Int × Er) :=
  ob1 (ob1 (M_task_Facts a0 a1) (fun z7 =>
    sel (!z7)
     (some (.inr (false, 0, (Er.no 2))))
     (ob1 (M_s_ContainsFunc_Fact a2 (M_p_Covered_1 a0)) (fun z8 =>
       sel z8
        (some (.inr (false, 0, (Er.no 2))))
        (some (.inl ()))))) : Option (Unit ⊕ (Bool × Int × Er)))
   (osum
   (fun _ => ob2 (M_pc_decide g ({ vars := a0, used := 0, steps := a3, full := false : GCover }) a1 a2) (fun z9 c10 =>
      sel c10.full
       (some (false, 0, (Er.no 10)))
       (some (z9, c10.used, Er.nil))))
   (fun (r3, r4, r5) => some (r3, r4, r5)))
theorem A_p_Covered (g : Nat) (a0 : List Int) (a1 : List Fact) (a2 : List (List Fact)) (a3 : Int) {r1 : Bool} {r2 : Int} {r3 : Er} (h : M_p_Covered g a0 a1 a2 a3 = some (r1, r2, r3)) : ACall cx 101 [.sl 1 (a0.map cI), .sl 2 (a1.map cF), .sl 1 (a2.map cL_cF), .c (.int .i64 a3)] (.tup [.c (.bool r1), .c (.int .i64 r2), eA r3]) := by
  refine aOf Tryz.func101 rfl (by decide) rfl (Nat.le_of_ble_eq_true rfl) ?_; intro _; unfold M_p_Covered at h; refine aSR ?_; intro _; refine dr ?_; obtain ⟨o1, h, hK2⟩ := ob1_ok h; refine awp_cut (α := Unit) (fun _ => mkS 41 [(1, .sl 2 (a1.map cF)), (2, .sl 1 (a2.map cL_cF)), (3, .c (.int .i64 a3)), (4, .ptr 4 0 0 0)] [(4, ⟨22, 1, true, [[.sl 1 (a0.map cI)]]⟩)]) (fun v => o1 = (.inl v)) ?_ ?_
  · refine aSR ?_; intro _; obtain ⟨z7, u3, h⟩ := ob1_ok h; refine cl rfl (A_task_Facts a0 a1 u3) ?_; intro _; refine spf h (fun c4 h => ?_) (fun c4 h => ?_)
    · intro _; refine ⟨_, lf_func rfl (Nat.le_of_ble_eq_true rfl) rfl rfl, ?_⟩; intro _; obtain ⟨z8, u5, h⟩ := ob1_ok h; refine clb [4] rfl rfl (A_s_ContainsFunc_Fact a2 (M_p_Covered_1 a0) (.clo (.func 121) [] [.pim [.sl 1 (a0.map cI)] 0]) (Fr.clo FrC_nil FrE.h) ⟨_, _, _, rfl⟩ (fun x0 y0 hx => ⟨121, [], _, rfl, A_p_Covered_1 a0 x0 hx⟩) u5) ?_; intro _; refine dr ?_; refine aCd ?_; intro _; refine spl h (fun c6 h => ?_) (fun c6 h => ?_)
      · refine aSR ?_; intro _; refine dr ?_; refine aRt ?_; have j7 := Option.some.inj h; subst j7; replace h := (osum_r hK2); intro _; obtain ⟨rfl, rfl, rfl⟩ := inj3 h; exact ca_0
      · refine aSk ?_; refine ⟨(), (Option.some.inj h).symm, ?_⟩; exact ca_0
    · intro _; refine dr ?_; refine aCd ?_; intro _; refine litT ?_; refine aSR ?_; intro _; refine dr ?_; refine aRt ?_; have j8 := Option.some.inj h; subst j8; replace h := (osum_r hK2); intro _; obtain ⟨rfl, rfl, rfl⟩ := inj3 h; exact ca_0
  · rintro _ ho; have ho := ho.symm; subst ho; intro _; replace h := (osum_l hK2); refine aSR ?_; intro _; refine dr ?_; refine aSR ?_; intro _; obtain ⟨z9, c10, u9, h⟩ := ob2_ok h; refine clg [(112, 26)] [] [] [(26, ⟨1, some ⟨171, 4, true, [[.sl 1 (c10.vars.map cI), .c (.int .i64 c10.used), .c (.int .i64 c10.steps), .c (.bool c10.full)]]⟩⟩)] (.c (.bool z9)) rfl rfl (A_pc_decide g ({ vars := a0, used := 0, steps := a3, full := false : GCover }) a1 a2 u9) ?_; intro _; refine dr ?_; refine aSq ?_; refine aSR ?_; intro _; refine dr ?_; refine aCd ?_; intro _; refine spl h (fun c10 h => ?_) (fun c10 h => ?_)
    · refine aSR ?_; intro _; refine dr ?_; refine aRt ?_; intro _; obtain ⟨rfl, rfl, rfl⟩ := inj3 h; exact ca_0
    · refine aSk ?_; refine aSR ?_; intro _; refine dr ?_; refine aRt ?_; intro _; obtain ⟨rfl, rfl, rfl⟩ := inj3 h; exact ca_0
end Go.Proofs.YtohjegemooakpaaGreat.Am
/- Range loops of the models as recursions. -/
namespace Go.Proofs.YtohjegemooakpaaGreat.Am
def M_b_Facts_L1_B (_ : List Fact) (a1 : List Fact) (_y8 : Fact) (v6 : Int) : Unit → (Unit → Option (Bool)) → Option (Bool) := fun _ rc => ixv _y8 (fun y8 =>
       ix a1 v6 (fun y9 =>
        sel (!(y8.1 == y9.1 && y8.2 == y9.2))
         (some false)
         (rc ())))
def M_b_Facts_L1_E (_ : List Fact) (_ : List Fact) : Unit → Option (Bool) := fun _ => some true
theorem M_b_Facts_L1_eq (a0 : List Fact) (a1 : List Fact)  (hl : a0.length < 9223372036854775807) : M_b_Facts_L1 a0 a1 (((a0.map cF).length : Int).toNat + 1) 0 = Rg (M_b_Facts_L1_B a0 a1) (M_b_Facts_L1_E a0 a1) a0 0 () := rg_e1 (L := fun k i _ => M_b_Facts_L1 a0 a1 k i) hl (fun _ _ _ => rfl) ()
end Go.Proofs.YtohjegemooakpaaGreat.Am
/- Range loops of the models as recursions. -/
namespace Go.Proofs.YtohjegemooakpaaGreat.Am
def M_p_conflict_L1_B (a0 : List Fact) (_ : List Fact) (_y8 : Fact) (_ : Int) : Unit → (Unit → Option (Bool)) → Option (Bool) := fun _ rc => ixv _y8 (fun y8 =>
       ob1 (M_p_find a0 y8.1) (fun z9 =>
        sel (decide (z9 ≥ 0))
         (sel (z9 != y8.2)
           (some true)
           (rc ()))
         (rc ())))
def M_p_conflict_L1_E (_ : List Fact) (_ : List Fact) : Unit → Option (Bool) := fun _ => some false
theorem M_p_conflict_L1_eq (a0 : List Fact) (a1 : List Fact)  (hl : a1.length < 9223372036854775807) : M_p_conflict_L1 a0 a1 (((a1.map cF).length : Int).toNat + 1) 0 = Rg (M_p_conflict_L1_B a0 a1) (M_p_conflict_L1_E a0 a1) a1 0 () := rg_e1 (L := fun k i _ => M_p_conflict_L1 a0 a1 k i) hl (fun _ _ _ => rfl) ()
def M_pc_decide_L1_B (a0 : GCover) (a1 : List Fact) (_ : List (List Fact)) (_y30 : List Fact) (_ : Int) : ((List (List Fact))) → (((List (List Fact))) → Option ((List (List Fact)) ⊕ (Bool × GCover))) → Option ((List (List Fact)) ⊕ (Bool × GCover)) := fun v28 rc => ixv _y30 (fun y30 =>
       ob1 (M_p_contains a1 y30) (fun z31 =>
        sel z31
         (some (.inr (true, { vars := a0.vars, used := (IntKind.i64.wrap (a0.used + 1)), steps := a0.steps, full := a0.full : GCover })))
         (ob1 (M_p_conflict a1 y30) (fun z32 =>
           sel (!z32)
            (grd ((v28.length + 1) * 24 ≤ 140737488355328) (rc ((v28 ++ [y30]))))
            (rc (v28))))))
def M_pc_decide_L1_E (_ : GCover) (_ : List Fact) (_ : List (List Fact)) : ((List (List Fact))) → Option ((List (List Fact)) ⊕ (Bool × GCover)) := fun v28 => some (.inl v28)
theorem M_pc_decide_L1_eq (a0 : GCover) (a1 : List Fact) (a2 : List (List Fact)) (v28 : List (List Fact)) (hl : a2.length < 9223372036854775807) : M_pc_decide_L1 a0 a1 a2 (((a2.map cL_cF).length : Int).toNat + 1) 0 v28 = Rg (M_pc_decide_L1_B a0 a1 a2) (M_pc_decide_L1_E a0 a1 a2) a2 0 v28 := rg_e1 (L := fun k i v28 => M_pc_decide_L1 a0 a1 a2 k i v28) hl (fun _ _ _ => rfl) v28
def M_pc_decide_L2_B (a1 : List Fact) (_ : List Fact) (_y199 : Fact) (_ : Int) : ((Int)) → (((Int)) → Option (Int)) → Option (Int) := fun v196 rc => ixv _y199 (fun y199 =>
       sel (decide (y199.1 < v196))
        (ob1 (M_p_find a1 y199.1) (fun z200 =>
          sel (decide (z200 < 0))
           (rc (y199.1))
           (rc (v196))))
        (rc (v196)))
def M_pc_decide_L2_E (_ : List Fact) (_ : List Fact) : ((Int)) → Option (Int) := fun v196 => some v196
theorem M_pc_decide_L2_eq (a1 : List Fact) (y189 : List Fact) (v196 : Int) (hl : y189.length < 9223372036854775807) : M_pc_decide_L2 a1 y189 (((y189.map cF).length : Int).toNat + 1) v196 0 = Rg (M_pc_decide_L2_B a1 y189) (M_pc_decide_L2_E a1 y189) y189 0 v196 := rg_e1 (L := fun k i v196 => M_pc_decide_L2 a1 y189 k v196 i) hl (fun _ _ _ => rfl) v196
def M_pc_decide_L3_B (a1 : List Fact) (v15 : List (List Fact)) (v173 : Int) : ((Int)) → (((Int)) → Option (Int)) → Option (Int) := fun v172 rc => ob1 (ixn v15 ((v173).toNat) (fun y189 =>
        grd (0 ≤ v173) (grd (v173 < ((v15.length : Nat) : Int)) (M_pc_decide_L2 a1 y189 ((((y189.map cF).length : Int)).toNat + 1) v172 0))) : Option (Int))
       (fun v187 => rc (v187))
def M_pc_decide_L3_E (_ : List Fact) (_ : List (List Fact)) : ((Int)) → Option (Int) := fun v172 => some v172
theorem M_pc_decide_L3_eq (a1 : List Fact) (v15 : List (List Fact)) (v172 : Int) {m : Nat} (hm : ((v15.length : Nat) : Int) = (m : Int)) (hl : m < 9223372036854775807) : M_pc_decide_L3 a1 v15 ((((v15.length : Nat) : Int)).toNat + 1) v172 0 = Rn (M_pc_decide_L3_B a1 v15) (M_pc_decide_L3_E a1 v15) m 0 v172 := rn_e (L := fun k i v172 => M_pc_decide_L3 a1 v15 k v172 i) hm hl (fun _ _ _ => rfl) v172
def M_pc_decide_L4_B (a1 : List Fact) (rec : GCover → (List Fact) → (List (List Fact)) → Option (Bool × GCover)) (v116 : Int) (_ : Int) (v216 : Int) : ((List (List Fact)) × (List Int) × (Int) × (Int) × (Bool)) → (((List (List Fact)) × (List Int) × (Int) × (Int) × (Bool)) → Option (Bool × GCover)) → Option (Bool × GCover) := fun (v215, v217, v218, v219, v220) rc => ob1 (M_with a1 (v116, v216)) (fun z222 =>
       grd (z222.length ≤ 140737488355328) (ob2 (rec ({ vars := v217, used := v218, steps := v219, full := v220 : GCover }) z222 v215) (fun z223 c224 =>
        sel (!z223)
         (some (false, c224))
         (rc (v215, c224.vars, c224.used, c224.steps, c224.full)))))
def M_pc_decide_L4_E (_ : List Fact) (_ : GCover → (List Fact) → (List (List Fact)) → Option (Bool × GCover)) (_ : Int) (_ : Int) : ((List (List Fact)) × (List Int) × (Int) × (Int) × (Bool)) → Option (Bool × GCover) := fun (_, v217, v218, v219, v220) => some (true, { vars := v217, used := v218, steps := v219, full := v220 : GCover })
theorem M_pc_decide_L4_eq (a1 : List Fact) (rec : GCover → (List Fact) → (List (List Fact)) → Option (Bool × GCover)) (v116 : Int) (y201 : Int) (v215 : List (List Fact)) (v217 : List Int) (v218 : Int) (v219 : Int) (v220 : Bool) {m : Nat} (hm : y201 = (m : Int)) (hl : m < 9223372036854775807) : M_pc_decide_L4 a1 rec v116 y201 ((y201).toNat + 1) v215 0 v217 v218 v219 v220 = Rn (M_pc_decide_L4_B a1 rec v116 y201) (M_pc_decide_L4_E a1 rec v116 y201) m 0 (v215, v217, v218, v219, v220) := rn_e (L := fun k i p => match p with | (v215, v217, v218, v219, v220) => M_pc_decide_L4 a1 rec v116 y201 k v215 i v217 v218 v219 v220) hm hl (fun _ _ ⟨_, _, _, _, _⟩ => rfl) (v215, v217, v218, v219, v220)
end Go.Proofs.YtohjegemooakpaaGreat.Am
/- Plain: partial.Covered with its limit of steps. -/
namespace Go.Proofs.YtohjegemooakpaaGreat.Am
open Go.RowKit
theorem conflict_eq (p x : List Fact) (hp : Sh p) (hx : Sh x) : M_p_conflict p x = some (clashP p x) := by
  rw [M_p_conflict, M_p_conflict_L1_eq p x hx.lt, rg_all (p := fun f => !(decide (0 ≤ findF p f.1) && decide (findF p f.1 ≠ f.2))) (c := some true)]
  · rw [M_p_conflict_L1_E, clashP]
    have : (x.all fun f => !(decide (0 ≤ findF p f.1) && decide (findF p f.1 ≠ f.2))) = !(x.any fun f => decide (0 ≤ findF p f.1) && decide (findF p f.1 ≠ f.2)) := by rw [List.not_any_eq_all_not]
    rw [this]
    cases x.any fun f => decide (0 ≤ findF p f.1) && decide (findF p f.1 ≠ f.2) <;> rfl
  · intro y _ i rc
    rw [M_p_conflict_L1_B, ixv, find_eq p y.1 hp, ob1_some, sel_dec]
    by_cases h : 0 ≤ findF p y.1
    · rw [if_pos h, decide_eq_true h, Bool.true_and]
      by_cases e : findF p y.1 = y.2
      · rw [show (findF p y.1 != y.2) = false from by simp [e], sel_ff, if_pos (by simp [e])]
      · rw [show (findF p y.1 != y.2) = true from by simp [e], sel_tt, if_neg (by simp [e])]
    · rw [if_neg h, decide_eq_false h, Bool.false_and, Bool.not_false, if_pos rfl]
theorem dec1 (c : GCover) (hu : IntKind.i64.wrap (c.used + 1) = c.used + 1) (p : List Fact) (hp : Sh p) (hpv : vF (-1) p = true) (l : List (List Fact)) : ∀ (r : List (List Fact)) (i : Int) (v : List (List Fact)), (∀ x ∈ r, Sh x ∧ vF (-1) x = true) → v.length + r.length ≤ 1000000 →
    Rg (M_pc_decide_L1_B c p l) (M_pc_decide_L1_E c p l) r i v = some (if r.any (fun x => subF x p) = true then .inr (true, { vars := c.vars, used := c.used + 1, steps := c.steps, full := c.full : GCover }) else .inl (v ++ restP p r))
  | [], i, v, _, _ => by rw [Rg, M_pc_decide_L1_E]; simp [restP]
  | x :: r, i, v, hr, hl => by
    obtain ⟨hx, hxv⟩ := hr x (List.mem_cons_self ..)
    rw [List.length_cons] at hl
    have hr2 : ∀ x ∈ r, Sh x ∧ vF (-1) x = true := fun y hy => hr y (List.mem_cons_of_mem _ hy)
    rw [Rg, M_pc_decide_L1_B, ixv, contains_eq p x hp hx hpv hxv, ob1_some, List.any_cons]
    cases hs : subF x p with
    | true => rw [sel_tt, Bool.true_or, if_pos rfl, hu]
    | false =>
      rw [sel_ff, Bool.false_or, conflict_eq p x hp hx, ob1_some]
      cases hc : clashP p x with
      | true =>
        rw [Bool.not_true, sel_ff, dec1 c hu p hp hpv l r _ v hr2 (by omega)]
        simp only [restP, List.filter_cons, hc, Bool.not_true, Bool.false_eq_true, if_false]
      | false =>
        rw [Bool.not_false, sel_tt, grd_t (by omega), dec1 c hu p hp hpv l r _ (v ++ [x]) hr2 (by simp; omega)]
        simp only [restP, List.filter_cons, hc, Bool.not_false, if_true, List.append_assoc, List.singleton_append]
theorem dec2 (p : List Fact) (hp : Sh p) (x : List Fact) : ∀ (r : List Fact) (i v : Int), Rg (M_pc_decide_L2_B p x) (M_pc_decide_L2_E p x) r i v = some (lowF p r v)
  | [], i, v => rfl
  | f :: r, i, v => by
    rw [Rg, M_pc_decide_L2_B, ixv, sel_dec, lowF]
    by_cases h1 : f.1 < v
    · rw [if_pos h1, find_eq p f.1 hp, ob1_some, sel_dec]
      by_cases h2 : findF p f.1 < 0
      · rw [if_pos h2, if_pos ⟨h1, h2⟩, dec2 p hp x r]
      · rw [if_neg h2, if_neg (fun h => h2 h.2), dec2 p hp x r]
    · rw [if_neg h1, if_neg (fun h => h1 h.1), dec2 p hp x r]
theorem dec3 (p : List Fact) (hp : Sh p) (l : List (List Fact)) (hl : ∀ x ∈ l, Sh x) : ∀ (m n : Nat) (v : Int), n + m = l.length → Rn (M_pc_decide_L3_B p l) (M_pc_decide_L3_E p l) m n v = some (lowL p (l.drop n) v)
  | 0, n, v, h => by rw [Rn, M_pc_decide_L3_E, List.drop_eq_nil_of_le (by omega)]; rfl
  | m + 1, n, v, h => by
    obtain ⟨y, hy, hd⟩ := drop_at (show n < l.length by omega)
    rw [Rn, M_pc_decide_L3_B, Int.toNat_natCast, ixn_at hy, grd_t (by omega), grd_t (by omega), M_pc_decide_L2_eq p y v (hl y (List.mem_of_getElem? hy)).lt, dec2 p hp y, ob1_some, show ((n : Int) + 1) = ((n + 1 : Nat) : Int) from rfl, dec3 p hp l hl m (n + 1) _ (by omega), hd, lowL]
/-- an answer with its steps, and the steps that are left -/
def limR (vars : List Int) (steps u : Int) (r : Bool × Int) : Bool × GCover :=
  if u + r.2 ≤ steps then (r.1, { vars := vars, used := u + r.2, steps := steps, full := false }) else (false, { vars := vars, used := max u steps, steps := steps, full := true })
theorem kids_ge (f : Int → Bool × Int) (hf : ∀ y, 0 ≤ (f y).2) : ∀ (m : Nat) (x c : Int), c ≤ (kids f m x c).2
  | 0, x, c => Int.le_refl _
  | m + 1, x, c => by
    rw [kids]
    have := hf x
    split
    · have := kids_ge f hf m (x + 1) (c + (f x).2); omega
    · show c ≤ c + (f x).2; omega
theorem decA_pos (vars : List Int) : ∀ (d : Nat) (p : List Fact) (l : List (List Fact)), 1 ≤ (decA vars d p l).2
  | 0, _, _ => Int.le_refl _
  | d + 1, p, l => by
    rw [decA]
    split
    · exact Int.le_refl _
    · split
      · exact Int.le_refl _
      · exact kids_ge _ (fun y => by have := decA_pos vars d (pwithF p (lowL p (restP p l) vars.length, y)) (restP p l); omega) _ _ _
theorem dec4 (vars : List Int) (steps u : Int) (p : List Fact) (hp : p.length ≤ 64) (v y : Int) (l : List (List Fact)) (rec : GCover → List Fact → List (List Fact) → Option (Bool × GCover)) (f : Int → Bool × Int) (hf : ∀ y, 1 ≤ (f y).2) (top : Int)
    (hrec : ∀ x w : Int, 0 ≤ x → x < top → 0 ≤ w → rec { vars := vars, used := w, steps := steps, full := false } (pwithF p (v, x)) l = some (limR vars steps w (f x))) (hu : 0 ≤ u) : ∀ (m n : Nat) (c : Int), ((n + m : Nat) : Int) ≤ top → 1 ≤ c → u + c ≤ steps →
    Rn (M_pc_decide_L4_B p rec v y) (M_pc_decide_L4_E p rec v y) m n (l, vars, u + c, steps, false) = some (limR vars steps u (kids f m n c))
  | 0, n, c, _, _, hc => by rw [Rn, M_pc_decide_L4_E, kids, limR, if_pos hc]
  | m + 1, n, c, ht, h1, hc => by
    have hfn := hf n
    rw [Rn, M_pc_decide_L4_B, M_with, grd_t (by omega), ob1_some, grd_t (by rw [pwithF_len]; omega), hrec n (u + c) (by omega) (by omega) (by omega), kids]
    by_cases hk : u + c + (f n).2 ≤ steps
    · rw [limR, if_pos hk, ob2_some]
      cases hb : (f n).1 with
      | false => rw [Bool.not_false, sel_tt, if_neg (by simp), limR, if_pos (by show u + (c + (f n).2) ≤ steps; omega), Int.add_assoc]
      | true =>
        rw [Bool.not_true, sel_ff, if_pos rfl]
        have := dec4 vars steps u p hp v y l rec f hf top hrec hu m (n + 1) (c + (f n).2) (by omega) (by omega) (by omega)
        rw [← Int.add_assoc] at this
        exact this
    · rw [limR, if_neg hk, ob2_some, Bool.not_false, sel_tt]
      have hge : c + (f n).2 ≤ (if (f n).1 = true then kids f m (n + 1) (c + (f n).2) else (false, c + (f n).2)).2 := by
        split
        · exact kids_ge f (fun y => by have := hf y; omega) m _ _
        · exact Int.le_refl _
      rw [limR, if_neg (by omega), show max (u + c) steps = max u steps from by omega]
theorem decide_eq (vars : List Int) (hv : vars.length ≤ 64) (hd : ∀ n ∈ vars, n ≤ 64) (steps : Int) (hst : steps ≤ 9223372036854775806) : ∀ (d : Nat) (p : List Fact) (l : List (List Fact)), DecP vars d p l → l.length ≤ 100000 → ∀ (g : Nat) (u : Int), d ≤ g → 0 ≤ u →
    M_pc_decide g { vars := vars, used := u, steps := steps, full := false } p l = some (limR vars steps u (decA vars d p l))
  | 0, p, l, h, _, _, _, _, _ => h.zero.elim
  | d + 1, p, l, h, hl, g, u, hg, hu => by
    obtain ⟨g, rfl⟩ : ∃ k, g = k + 1 := ⟨g - 1, by omega⟩
    have hpl := prop_len hv h.prop
    have hps := prop_sh hv h.prop
    rw [M_pc_decide]
    simp only
    rw [sel_dec]
    by_cases hus : u ≥ steps
    · have := decA_pos vars (d + 1) p l
      rw [if_pos hus, limR, if_neg (by omega), show max u steps = u from by omega]
    · have hw : IntKind.i64.wrap (u + 1) = u + 1 := wrap_eq (by omega) (by omega)
      have hall : ∀ x ∈ l, Sh x ∧ vF (-1) x = true := fun x hx => ⟨prop_sh hv (h.all x hx), propF_vF' (h.all x hx)⟩
      rw [if_neg hus, M_pc_decide_L1_eq _ p l [] (by omega), dec1 _ hw p hps (propF_vF' h.prop) l l 0 [] hall (by simp; omega), ob1_some, decA]
      by_cases hc : l.any (fun x => subF x p) = true
      · rw [if_pos hc, if_pos hc, osum_inr, limR, if_pos (by show u + 1 ≤ steps; omega)]
      · have hrl : (restP p l).length ≤ l.length := List.length_filter_le _ _
        have e3 : Rn (M_pc_decide_L3_B p (restP p l)) (M_pc_decide_L3_E p (restP p l)) (restP p l).length 0 (vars.length : Int) = some (lowL p (restP p l) vars.length) := dec3 p hps (restP p l) (fun x hx => (hall x (List.mem_filter.1 hx).1).1) _ 0 _ (Nat.zero_add _)
        rw [if_neg hc, if_neg hc, osum_inl, List.nil_append, M_pc_decide_L3_eq p (restP p l) _ rfl (by omega), List.length_map, e3, ob1_some]
        by_cases hlo : lowL p (restP p l) vars.length = vars.length
        · rw [if_pos hlo, hlo, beq_self_eq_true, sel_tt, hw, limR, if_pos (by show u + 1 ≤ steps; omega)]
        · obtain ⟨h1, h2, h3⟩ := h.low hlo
          have hmem : vars.getD (lowL p (restP p l) vars.length).toNat 0 ∈ vars := by
            rw [List.getD_eq_getElem?_getD, List.getElem?_eq_getElem (by omega), Option.getD_some]
            exact List.getElem_mem _
          have hdo := h.dom _ hmem
          have hd2 := hd _ hmem
          rw [if_neg hlo, show (lowL p (restP p l) vars.length == (vars.length : Int)) = false from by simp [hlo], sel_ff, ix_getD (d := 0) h1 h2, grd_t (by omega), M_pc_decide_L4_eq p _ _ _ _ _ _ _ _ (m := (vars.getD (lowL p (restP p l) vars.length).toNat 0).toNat) (by omega) (by omega), hw]
          exact dec4 vars steps u p hpl _ _ (restP p l) _ (fun x => decA vars d (pwithF p (lowL p (restP p l) vars.length, x)) (restP p l)) (fun y => decA_pos vars d _ _) (vars.getD (lowL p (restP p l) vars.length).toNat 0)
            (fun x w x0 x1 w0 => decide_eq vars hv hd steps hst d _ _ (h.kid hlo x0 x1) (by omega) g w (by omega) w0) hu _ 0 1 (by omega) (by omega) (by omega)
/-- whether every state with p has an element of l, and the number of steps -/
def covA (vars : List Int) (p : List Fact) (l : List (List Fact)) : Bool × Int := decA vars (vars.length + 1) p l
structure DomP (vars : List Int) : Prop where
  len : vars.length ≤ 64
  dom : ∀ n ∈ vars, 1 ≤ n ∧ n ≤ 64
theorem good_dom {t : GTask} (h : goodF t = true) : DomP t.Vars := by
  unfold goodF at h
  simp only [Bool.and_eq_true, decide_eq_true_iff, List.all_eq_true] at h
  exact ⟨h.1.1, h.2.1⟩
theorem cov_pre {vars : List Int} (h : DomP vars) {p : List Fact} (hp : propF vars (-1) p = true) {l : List (List Fact)} (hl : PropL vars l) : DecP vars (vars.length + 1) p l := ⟨fun n hn => (h.dom n hn).1, hp, hl, by omega⟩
theorem covA_true {vars : List Int} (h : DomP vars) {p : List Fact} (hp : propF vars (-1) p = true) {l : List (List Fact)} (hl : PropL vars l) : (covA vars p l).1 = true ↔ ∀ s, stateF vars s = true → holdsF s p = true → some1 s l := decA_true _ p l (cov_pre h hp hl)
def covR (r : Bool × Int) (steps : Int) : Bool × Int × Er := if r.2 ≤ steps then (r.1, r.2, .nil) else (false, 0, .no 10)
theorem covered_eq {vars : List Int} (h : DomP vars) {p : List Fact} (hp : propF vars (-1) p = true) {l : List (List Fact)} (hl : PropL vars l) (hlen : l.length ≤ 100000) (steps : Int) (hst : steps ≤ 9223372036854775806) (g : Nat) (hg : 65 ≤ g) : M_p_Covered g vars p l steps = some (covR (covA vars p l) steps) := by
  have hv := h.len
  rw [M_p_Covered, facts_eq vars p (prop_sh hv hp), hp, ob1_some, Bool.not_true, sel_ff, containsFunc_eq (p := fun x => !propF vars (-1) x) (show _ ≤ _ by omega) (fun y hy => by
    rw [M_p_Covered_1, facts_eq vars y (prop_sh hv (hl y hy)), ob1_some])]
  have hany : (l.any fun x => !propF vars (-1) x) = false := by
    rw [Bool.eq_false_iff]
    intro hh
    obtain ⟨x, hx, e⟩ := List.any_eq_true.1 hh
    rw [hl x hx] at e
    cases e
  rw [hany, ob1_some, sel_ff, ob1_some, osum_inl, decide_eq vars hv (fun n hn => (h.dom n hn).2) steps hst _ p l (cov_pre h hp hl) hlen g 0 (by omega) (Int.le_refl _)]
  show ob2 (some (limR vars steps 0 (covA vars p l))) _ = _
  unfold limR covR
  rw [Int.zero_add]
  split <;> rfl
end Go.Proofs.YtohjegemooakpaaGreat.Am
/- Models printed by my decompiler, and the proofs that the code computes them. -/
namespace Go.Proofs.YtohjegemooakpaaGreat.Am
set_option maxHeartbeats 16000000
set_option maxRecDepth 100000
open Go.RowKit
def M_ce_formed_L1 (a0 : List Fact) : Nat → Int → Option (Bool)
  | 0, _ => none
  | k6 + 1, v5 =>
    sel (decide (v5 < ((a0.map cF).length : Int)))
     (ix a0 v5 (fun y7 =>
       sel (decide (y7.1 < 0))
        (some false)
        (sel (decide (y7.1 ≥ 64))
          (some false)
          (sel (decide (y7.2 < 0))
            (some false)
            (sel (decide (y7.2 ≥ 64))
              (some false)
              (sel (decide (v5 > 0))
                (ix a0 (IntKind.i64.wrap (v5 - 1)) (fun y8 =>
                  sel (decide (y8.1 ≥ y7.1))
                   (some false)
                   (M_ce_formed_L1 a0 k6 (IntKind.i64.wrap (v5 + 1)))))
                (M_ce_formed_L1 a0 k6 (IntKind.i64.wrap (v5 + 1)))))))))
     (some true)
def M_ce_formed (a0 : List Fact) : Option (Bool) :=
  M_ce_formed_L1 a0 ((((a0.map cF).length : Int)).toNat + 1) 0
theorem A_ce_formed (a0 : List Fact) {r1 : Bool} (h : M_ce_formed a0 = some r1) : ACall cx 47 [.sl 2 (a0.map cF)] (.c (.bool r1)) := by
  refine aOf Tryz.func47 rfl (by decide) rfl (Nat.le_of_ble_eq_true rfl) ?_; intro _; unfold M_ce_formed at h; refine aSR ?_; intro _; refine dr ?_; refine aSq ?_; refine aSR ?_; intro _; refine dr ?_; refine aBk ?_; refine awp_loop (α := Nat × Int) (fun x => mkS 46 [(0, .sl 2 (a0.map cF)), (5, .sl 2 (a0.map cF)), (6, .c (.int .i64 ((a0.map cF).length : Int))), (7, .c (.int .i64 x.2))] []) (fun x => M_ce_formed_L1 a0 x.1 x.2 = some r1) (fun x => x.1) ((((a0.map cF).length : Int)).toNat + 1, 0) h ?_ ?_
  · exact ca_0
  · intro x1 h; intro _; obtain ⟨k6, m2, h⟩ := succ_of (f := fun n => M_ce_formed_L1 a0 n x1.2) rfl h; replace h : M_ce_formed_L1 a0 (k6 + 1) x1.2 = some r1 := h; rw [M_ce_formed_L1] at h; refine aSR ?_; intro _; refine dr ?_; refine aSq ?_; refine aCd ?_; intro _; refine spl h (fun c3 h => ?_) (fun c3 h => ?_)
    · refine aSk ?_; refine aSq ?_; refine aBk ?_; refine aSR ?_; intro _; obtain ⟨y7, w4, q5, h⟩ := ix_ok h; refine Exists.intro (cF y7) (And.intro (map_at' w4) ?_); intro _; refine pr ?_; refine dr ?_; refine aSR ?_; intro _; refine spf h (fun c6 h => ?_) (fun c6 h => ?_)
      · intro _; refine spf h (fun c7 h => ?_) (fun c7 h => ?_)
        · intro _; refine spf h (fun c8 h => ?_) (fun c8 h => ?_)
          · intro _; refine spf h (fun c9 h => ?_) (fun c9 h => ?_)
            · intro _; refine spl h (fun c10 h => ?_) (fun c10 h => ?_)
              · intro _; obtain ⟨y8, w11, q12, h⟩ := ix_ok h; refine Exists.intro (cF y8) (And.intro (map_at' w11) ?_); intro _; refine pr ?_; refine dr ?_; refine aCd ?_; intro _; refine spl h (fun c13 h => ?_) (fun c13 h => ?_)
                · refine aSR ?_; intro _; refine dr ?_; refine aRt ?_; intro _; obtain rfl := inj1 h; exact ca_0
                · refine aSk ?_; refine aRg ?_; intro _; refine dr ?_; refine ⟨(k6, (IntKind.i64.wrap (x1.2 + 1))), h, ltS m2, ?_⟩; exact ca_0
              · intro _; refine dr ?_; refine aCd ?_; intro _; refine litF ?_; refine aSk ?_; refine aRg ?_; intro _; refine dr ?_; refine ⟨(k6, (IntKind.i64.wrap (x1.2 + 1))), h, ltS m2, ?_⟩; exact ca_0
            · intro _; refine dr ?_; refine aCd ?_; intro _; refine litT ?_; refine aSR ?_; intro _; refine dr ?_; refine aRt ?_; intro _; obtain rfl := inj1 h; exact ca_0
          · intro _; refine dr ?_; refine aCd ?_; intro _; refine litT ?_; refine aSR ?_; intro _; refine dr ?_; refine aRt ?_; intro _; obtain rfl := inj1 h; exact ca_0
        · intro _; refine dr ?_; refine aCd ?_; intro _; refine litT ?_; refine aSR ?_; intro _; refine dr ?_; refine aRt ?_; intro _; obtain rfl := inj1 h; exact ca_0
      · intro _; refine dr ?_; refine aCd ?_; intro _; refine litT ?_; refine aSR ?_; intro _; refine dr ?_; refine aRt ?_; intro _; obtain rfl := inj1 h; exact ca_0
    · refine aEx ?_; refine aSR ?_; intro _; refine dr ?_; refine aRt ?_; intro _; obtain rfl := inj1 h; exact ca_0
def M_ce_Check_L1 (a0 : GCertificate) : Nat → Int → Option (Unit ⊕ Er)
  | 0, _ => none
  | k20 + 1, v19 =>
    sel (decide (v19 < ((a0.Nogoods.map cN).length : Int)))
     (ix a0.Nogoods v19 (fun y21 =>
       ob1 (M_ce_formed y21.1) (fun z22 =>
        sel (!z22)
         (some (.inr (Er.no 2)))
         (M_ce_Check_L1 a0 k20 (IntKind.i64.wrap (v19 + 1))))))
     (some (.inl ()))
def M_ce_Check_L2 (a0 : GCertificate) : Nat → Int → Option (Er)
  | 0, _ => none
  | k27 + 1, v26 =>
    sel (decide (v26 < ((a0.Nogoods.map cN).length : Int)))
     (ix a0.Nogoods v26 (fun y28 =>
       sel (decide (y28.2 < 0))
        (some (Er.no 1))
        (sel (decide (a0.Bound ≥ 0))
          (sel (decide (y28.2 ≥ a0.Bound))
            (some (Er.no 1))
            (sel (decide (a0.Bound < 0))
              (sel (y28.2 != 0)
                (some (Er.no 1))
                (M_ce_Check_L2 a0 k27 (IntKind.i64.wrap (v26 + 1))))
              (M_ce_Check_L2 a0 k27 (IntKind.i64.wrap (v26 + 1)))))
          (sel (decide (a0.Bound < 0))
            (sel (y28.2 != 0)
              (some (Er.no 1))
              (M_ce_Check_L2 a0 k27 (IntKind.i64.wrap (v26 + 1))))
            (M_ce_Check_L2 a0 k27 (IntKind.i64.wrap (v26 + 1)))))))
     (some Er.nil)
def M_ce_Check (a0 : GCertificate) : Option (Er) :=
  ob1 (sel (decide (a0.Bound < (-1)))
    (some (.inr (Er.no 1)))
    (sel (decide (a0.Bound > 1099511627776))
      (some (.inr (Er.no 1)))
      (some (.inl ()))) : Option (Unit ⊕ Er))
   (osum
   (fun _ => sel (decide (((a0.Nogoods.map cN).length : Int) > 4096))
      (some (Er.no 5))
      (ob1 (M_ce_Check_L1 a0 ((((a0.Nogoods.map cN).length : Int)).toNat + 1) 0 : Option (Unit ⊕ Er))
        (osum
        (fun _ => M_ce_Check_L2 a0 ((((a0.Nogoods.map cN).length : Int)).toNat + 1) 0)
        (fun r12 => some r12))))
   (fun r1 => some r1))
theorem A_ce_Check (a0 : GCertificate) {r1 : Er} (h : M_ce_Check a0 = some r1) : ACall cx 19 [.agg [.c (.int .i64 a0.Bound), .sl 2 (a0.Nogoods.map cN)]] (eA r1) := by
  refine aOf Tryz.func19 rfl (by decide) rfl (Nat.le_of_ble_eq_true rfl) ?_; intro _; unfold M_ce_Check at h; refine aSR ?_; intro _; refine dr ?_; obtain ⟨o1, h, hK2⟩ := ob1_ok h; refine awp_cut (α := Unit) (fun _ => mkS 68 [(1, .ptr 1 0 0 0)] [(1, ⟨31, 2, true, [[.c (.int .i64 a0.Bound), .sl 2 (a0.Nogoods.map cN)]]⟩)]) (fun v => o1 = (.inl v)) ?_ ?_
  · refine aSR ?_; intro _; refine spf h (fun c3 h => ?_) (fun c3 h => ?_)
    · intro _; refine dr ?_; refine aCd ?_; intro _; refine spl h (fun c4 h => ?_) (fun c4 h => ?_)
      · refine aSR ?_; intro _; refine dr ?_; refine aRt ?_; have j5 := Option.some.inj h; subst j5; replace h := (osum_r hK2); intro _; obtain rfl := inj1 h; exact ca_0
      · refine aSk ?_; refine ⟨(), (Option.some.inj h).symm, ?_⟩; exact ca_0
    · intro _; refine dr ?_; refine aCd ?_; intro _; refine litT ?_; refine aSR ?_; intro _; refine dr ?_; refine aRt ?_; have j6 := Option.some.inj h; subst j6; replace h := (osum_r hK2); intro _; obtain rfl := inj1 h; exact ca_0
  · rintro _ ho; have ho := ho.symm; subst ho; intro _; replace h := (osum_l hK2); refine aSq ?_; refine aSR ?_; intro _; refine dr ?_; refine aCd ?_; intro _; refine spl h (fun c7 h => ?_) (fun c7 h => ?_)
    · refine aSR ?_; intro _; refine dr ?_; refine aRt ?_; intro _; obtain rfl := inj1 h; exact ca_0
    · refine aSk ?_; obtain ⟨o8, h, hK9⟩ := ob1_ok h; refine awp_cut (α := Unit) (fun _ => mkS 68 [(1, .ptr 1 0 0 0)] [(1, ⟨31, 2, true, [[.c (.int .i64 a0.Bound), .sl 2 (a0.Nogoods.map cN)]]⟩)]) (fun v => o8 = (.inl v)) ?_ ?_
      · refine aSR ?_; intro _; refine dr ?_; refine aBk ?_; refine awp_loop (α := Nat × Int) (fun x => mkS 68 [(1, .ptr 1 0 0 0), (22, .sl 2 (a0.Nogoods.map cN)), (23, .c (.int .i64 ((a0.Nogoods.map cN).length : Int))), (24, .c (.int .i64 x.2))] [(1, ⟨31, 2, true, [[.c (.int .i64 a0.Bound), .sl 2 (a0.Nogoods.map cN)]]⟩)]) (fun x => M_ce_Check_L1 a0 x.1 x.2 = some o8) (fun x => x.1) ((((a0.Nogoods.map cN).length : Int)).toNat + 1, 0) h ?_ ?_
        · exact ca_0
        · intro x10 h; intro _; obtain ⟨k20, m11, h⟩ := succ_of (f := fun n => M_ce_Check_L1 a0 n x10.2) rfl h; replace h : M_ce_Check_L1 a0 (k20 + 1) x10.2 = some o8 := h; rw [M_ce_Check_L1] at h; refine aSR ?_; intro _; refine dr ?_; refine aSq ?_; refine aCd ?_; intro _; refine spl h (fun c12 h => ?_) (fun c12 h => ?_)
          · refine aSk ?_; refine aSq ?_; refine aBk ?_; refine aSR ?_; intro _; obtain ⟨y21, w13, q14, h⟩ := ix_ok h; refine Exists.intro (cN y21) (And.intro (map_at' w13) ?_); intro _; refine pr ?_; refine dr ?_; refine aSR ?_; intro _; obtain ⟨z22, u15, h⟩ := ob1_ok h; refine cl rfl (A_ce_formed y21.1 u15) ?_; intro _; refine dr ?_; refine aCd ?_; intro _; refine spl h (fun c16 h => ?_) (fun c16 h => ?_)
            · refine aSR ?_; intro _; refine dr ?_; refine aRt ?_; have j17 := Option.some.inj h; subst j17; replace h := (osum_r hK9); intro _; obtain rfl := inj1 h; exact ca_0
            · refine aSk ?_; refine aRg ?_; intro _; refine dr ?_; refine ⟨(k20, (IntKind.i64.wrap (x10.2 + 1))), h, ltS m11, ?_⟩; exact ca_0
          · refine aEx ?_; refine ⟨(), (Option.some.inj h).symm, ?_⟩; exact ca_0
      · rintro _ ho; have ho := ho.symm; subst ho; intro _; replace h := (osum_l hK9); refine aSq ?_; refine aSR ?_; intro _; refine dr ?_; refine aBk ?_; refine awp_loop (α := Nat × Int) (fun x => mkS 68 [(1, .ptr 1 0 0 0), (35, .sl 2 (a0.Nogoods.map cN)), (36, .c (.int .i64 ((a0.Nogoods.map cN).length : Int))), (37, .c (.int .i64 x.2))] [(1, ⟨31, 2, true, [[.c (.int .i64 a0.Bound), .sl 2 (a0.Nogoods.map cN)]]⟩)]) (fun x => M_ce_Check_L2 a0 x.1 x.2 = some r1) (fun x => x.1) ((((a0.Nogoods.map cN).length : Int)).toNat + 1, 0) h ?_ ?_
        · exact ca_0
        · intro x18 h; intro _; obtain ⟨k27, m19, h⟩ := succ_of (f := fun n => M_ce_Check_L2 a0 n x18.2) rfl h; replace h : M_ce_Check_L2 a0 (k27 + 1) x18.2 = some r1 := h; rw [M_ce_Check_L2] at h; refine aSR ?_; intro _; refine dr ?_; refine aSq ?_; refine aCd ?_; intro _; refine spl h (fun c20 h => ?_) (fun c20 h => ?_)
          · refine aSk ?_; refine aSq ?_; refine aBk ?_; refine aSR ?_; intro _; obtain ⟨y28, w21, q22, h⟩ := ix_ok h; refine Exists.intro (cN y28) (And.intro (map_at' w21) ?_); intro _; refine pr ?_; refine dr ?_; refine aSR ?_; intro _; refine spf h (fun c23 h => ?_) (fun c23 h => ?_)
            · intro _; refine spl h (fun c24 h => ?_) (fun c24 h => ?_)
              · intro _; refine spf h (fun c25 h => ?_) (fun c25 h => ?_)
                · intro _; refine spl h (fun c26 h => ?_) (fun c26 h => ?_)
                  · intro _; refine dr ?_; refine aCd ?_; intro _; refine spl h (fun c27 h => ?_) (fun c27 h => ?_)
                    · refine aSR ?_; intro _; refine dr ?_; refine aRt ?_; intro _; obtain rfl := inj1 h; exact ca_0
                    · refine aSk ?_; refine aRg ?_; intro _; refine dr ?_; refine ⟨(k27, (IntKind.i64.wrap (x18.2 + 1))), h, ltS m19, ?_⟩; exact ca_0
                  · intro _; refine dr ?_; refine aCd ?_; intro _; refine litF ?_; refine aSk ?_; refine aRg ?_; intro _; refine dr ?_; refine ⟨(k27, (IntKind.i64.wrap (x18.2 + 1))), h, ltS m19, ?_⟩; exact ca_0
                · intro _; refine dr ?_; refine aCd ?_; intro _; refine litT ?_; refine aSR ?_; intro _; refine dr ?_; refine aRt ?_; intro _; obtain rfl := inj1 h; exact ca_0
              · intro _; refine spl h (fun c28 h => ?_) (fun c28 h => ?_)
                · intro _; refine dr ?_; refine aCd ?_; intro _; refine spl h (fun c29 h => ?_) (fun c29 h => ?_)
                  · refine aSR ?_; intro _; refine dr ?_; refine aRt ?_; intro _; obtain rfl := inj1 h; exact ca_0
                  · refine aSk ?_; refine aRg ?_; intro _; refine dr ?_; refine ⟨(k27, (IntKind.i64.wrap (x18.2 + 1))), h, ltS m19, ?_⟩; exact ca_0
                · intro _; refine dr ?_; refine aCd ?_; intro _; refine litF ?_; refine aSk ?_; refine aRg ?_; intro _; refine dr ?_; refine ⟨(k27, (IntKind.i64.wrap (x18.2 + 1))), h, ltS m19, ?_⟩; exact ca_0
            · intro _; refine dr ?_; refine aCd ?_; intro _; refine litT ?_; refine aSR ?_; intro _; refine dr ?_; refine aRt ?_; intro _; obtain rfl := inj1 h; exact ca_0
          · refine aEx ?_; refine aSR ?_; intro _; refine dr ?_; refine aRt ?_; intro _; obtain rfl := inj1 h; exact ca_0
def M_ce_Proper_L1 (a0 : List Int) (a1 : GCertificate) : Nat → Int → Option (Er)
  | 0, _ => none
  | k9 + 1, v8 =>
    sel (decide (v8 < ((a1.Nogoods.map cN).length : Int)))
     (ix a1.Nogoods v8 (fun y10 =>
       ob1 (M_task_Facts a0 y10.1) (fun z11 =>
        sel (!z11)
         (some (Er.no 2))
         (M_ce_Proper_L1 a0 a1 k9 (IntKind.i64.wrap (v8 + 1))))))
     (some Er.nil)
def M_ce_Proper (a0 : List Int) (a1 : GCertificate) : Option (Er) :=
  ob1 (M_ce_Check a1) (fun z1 =>
   erM z1
    (M_ce_Proper_L1 a0 a1 ((((a1.Nogoods.map cN).length : Int)).toNat + 1) 0)
    (fun e2 => some (Er.no e2)))
theorem A_ce_Proper (a0 : List Int) (a1 : GCertificate) {r1 : Er} (h : M_ce_Proper a0 a1 = some r1) : ACall cx 83 [.sl 1 (a0.map cI), .agg [.c (.int .i64 a1.Bound), .sl 2 (a1.Nogoods.map cN)]] (eA r1) := by
  refine aOf Tryz.func83 rfl (by decide) rfl (Nat.le_of_ble_eq_true rfl) ?_; intro _; unfold M_ce_Proper at h; refine aSR ?_; intro _; refine dr ?_; refine aSq ?_; refine aSR ?_; intro _; obtain ⟨z1, u1, h⟩ := ob1_ok h; refine cl rfl (A_ce_Check a1 u1) ?_; intro _; refine dr ?_; refine aSq ?_; rcases z1 with _ | e2
  · replace h := erM_nil h; refine aRg ?_; intro _; refine dr ?_; refine aCd ?_; intro _; refine litF ?_; refine aSk ?_; refine aSq ?_; refine aSR ?_; intro _; refine dr ?_; refine aBk ?_; refine awp_loop (α := Nat × Int) (fun x => mkS 27 [(0, .sl 1 (a0.map cI)), (14, .sl 2 (a1.Nogoods.map cN)), (15, .c (.int .i64 ((a1.Nogoods.map cN).length : Int))), (16, .c (.int .i64 x.2))] []) (fun x => M_ce_Proper_L1 a0 a1 x.1 x.2 = some r1) (fun x => x.1) ((((a1.Nogoods.map cN).length : Int)).toNat + 1, 0) h ?_ ?_
    · exact ca_0
    · intro x2 h; intro _; obtain ⟨k9, m3, h⟩ := succ_of (f := fun n => M_ce_Proper_L1 a0 a1 n x2.2) rfl h; replace h : M_ce_Proper_L1 a0 a1 (k9 + 1) x2.2 = some r1 := h; rw [M_ce_Proper_L1] at h; refine aSR ?_; intro _; refine dr ?_; refine aSq ?_; refine aCd ?_; intro _; refine spl h (fun c4 h => ?_) (fun c4 h => ?_)
      · refine aSk ?_; refine aSq ?_; refine aBk ?_; refine aSR ?_; intro _; obtain ⟨y10, w5, q6, h⟩ := ix_ok h; refine Exists.intro (cN y10) (And.intro (map_at' w5) ?_); intro _; refine pr ?_; refine dr ?_; refine aSR ?_; intro _; obtain ⟨z11, u7, h⟩ := ob1_ok h; refine cl rfl (A_task_Facts a0 y10.1 u7) ?_; intro _; refine dr ?_; refine aCd ?_; intro _; refine spl h (fun c8 h => ?_) (fun c8 h => ?_)
        · refine aSR ?_; intro _; refine dr ?_; refine aRt ?_; intro _; obtain rfl := inj1 h; exact ca_0
        · refine aSk ?_; refine aRg ?_; intro _; refine dr ?_; refine ⟨(k9, (IntKind.i64.wrap (x2.2 + 1))), h, ltS m3, ?_⟩; exact ca_0
      · refine aEx ?_; refine aSR ?_; intro _; refine dr ?_; refine aRt ?_; intro _; obtain rfl := inj1 h; exact ca_0
  · replace h := erM_no h; refine aRg ?_; intro _; refine dr ?_; refine aCd ?_; intro _; refine litT ?_; refine aSR ?_; intro _; refine dr ?_; refine aRt ?_; intro _; obtain rfl := inj1 h; exact ca_0
def M_ck_counting_L1 (a0 : GChecker) (a1 : Int) : Nat → Int → (List (List Fact)) → Option (List (List Fact))
  | 0, _, _ => none
  | k7 + 1, v5, v6 =>
    sel (decide (v5 < ((a0.c.Nogoods.map cN).length : Int)))
     (ix a0.c.Nogoods v5 (fun y8 =>
       sel (decide (y8.2 ≤ a1))
        (grd ((v6.length + 1) * 24 ≤ 140737488355328) (M_ck_counting_L1 a0 a1 k7 (IntKind.i64.wrap (v5 + 1)) (v6 ++ [y8.1])))
        (M_ck_counting_L1 a0 a1 k7 (IntKind.i64.wrap (v5 + 1)) v6)))
     (grd (v6.length ≤ 140737488355328) (some v6))
def M_ck_counting (a0 : GChecker) (a1 : Int) : Option (List (List Fact)) :=
  M_ck_counting_L1 a0 a1 ((((a0.c.Nogoods.map cN).length : Int)).toNat + 1) 0 []
theorem A_ck_counting (a0 : GChecker) (a1 : Int) {r1 : List (List Fact)} (h : M_ck_counting a0 a1 = some r1) : ACallG cx 102 [.ptr 29 0 0 0, .c (.int .i64 a1)] [(29, ⟨130, 7, true, [[.sl 1 (a0.t.Vars.map cI), .sl 1 (a0.t.Init.map cI), .sl 2 (a0.t.Goal.map cF), .sl 4 (a0.t.Ops.map cGOp), .c (.int .i64 a0.c.Bound), .sl 2 (a0.c.Nogoods.map cN), .c (.int .i64 a0.steps)]]⟩)] [29] (.sl 1 (r1.map cL_cF)) [(29, ⟨130, 7, true, [[.sl 1 (a0.t.Vars.map cI), .sl 1 (a0.t.Init.map cI), .sl 2 (a0.t.Goal.map cF), .sl 4 (a0.t.Ops.map cGOp), .c (.int .i64 a0.c.Bound), .sl 2 (a0.c.Nogoods.map cN), .c (.int .i64 a0.steps)]]⟩)] := by
  refine acallg_of 31 Tryz.func102 rfl (by decide) rfl (Nat.le_of_ble_eq_true rfl) rfl rfl ?_; intro _; unfold M_ck_counting at h; refine aSR ?_; intro _; refine dr ?_; refine aSR ?_; intro _; refine dr ?_; refine aSq ?_; refine aSR ?_; intro _; refine dr ?_; refine aBk ?_; refine awp_loop (α := Nat × Int × (List (List Fact))) (fun x => mkG 29 31 [(1, .c (.int .i64 a1)), (5, .own 26 0 0 x.2.2.length), (12, .sl 2 (a0.c.Nogoods.map cN)), (13, .c (.int .i64 ((a0.c.Nogoods.map cN).length : Int))), (14, .c (.int .i64 x.2.1))] [(26, ⟨23, 1, false, x.2.2.map cL_cF⟩), (29, ⟨130, 7, true, [[.sl 1 (a0.t.Vars.map cI), .sl 1 (a0.t.Init.map cI), .sl 2 (a0.t.Goal.map cF), .sl 4 (a0.t.Ops.map cGOp), .c (.int .i64 a0.c.Bound), .sl 2 (a0.c.Nogoods.map cN), .c (.int .i64 a0.steps)]]⟩)]) (fun x => M_ck_counting_L1 a0 a1 x.1 x.2.1 x.2.2 = some r1) (fun x => x.1) ((((a0.c.Nogoods.map cN).length : Int)).toNat + 1, 0, []) h ?_ ?_
  · exact ca_0
  · intro x1 h; intro _; obtain ⟨k7, m2, h⟩ := succ_of (f := fun n => M_ck_counting_L1 a0 a1 n x1.2.1 x1.2.2) rfl h; replace h : M_ck_counting_L1 a0 a1 (k7 + 1) x1.2.1 x1.2.2 = some r1 := h; rw [M_ck_counting_L1] at h; refine aSR ?_; intro _; refine dr ?_; refine aSq ?_; refine aCd ?_; intro _; refine spl h (fun c3 h => ?_) (fun c3 h => ?_)
    · refine aSk ?_; refine aSq ?_; refine aBk ?_; refine aSR ?_; intro _; obtain ⟨y8, w4, q5, h⟩ := ix_ok h; refine Exists.intro (cN y8) (And.intro (map_at' w4) ?_); intro _; refine pr ?_; refine dr ?_; refine aSR ?_; intro _; refine dr ?_; refine aCd ?_; intro _; refine spl h (fun c6 h => ?_) (fun c6 h => ?_)
      · refine aRg ?_; intro _; obtain ⟨q7, h⟩ := grd_ok h; refine pl ?_; refine pl ?_; refine And.intro (by first | with_reducible assumption | (show (x1.2.2.length + 1) * 24 ≤ 140737488355328; with_reducible assumption) | omega | (simp; omega)) ?_; refine pe ?_; refine dr ?_; refine aRg ?_; intro _; refine dr ?_; refine ⟨(k7, (IntKind.i64.wrap (x1.2.1 + 1)), (x1.2.2 ++ [y8.1])), h, ltS m2, ?_⟩; exact ca_0
      · refine aSk ?_; refine aRg ?_; intro _; refine dr ?_; refine ⟨(k7, (IntKind.i64.wrap (x1.2.1 + 1)), x1.2.2), h, ltS m2, ?_⟩; exact ca_0
    · refine aEx ?_; refine aSR ?_; intro _; refine dr ?_; refine aRt ?_; obtain ⟨q8, h⟩ := grd_ok h; intro _; obtain rfl := inj1 h; all_goals (refine Exists.intro [] (And.intro rfl (And.intro ?_ ?_))); all_goals (exact zg_0)
def M_ck_covered (g : Nat) (a0 : GChecker) (a1 : List Fact) (a2 : Int) : Option (Bool × Er × GChecker) :=
  ob1 (M_ck_counting a0 a2) (fun z1 =>
   ob3 (M_p_Covered g a0.t.Vars a1 z1 a0.steps) (fun z2 z3 z4 =>
    erM z4
     (some (z2, Er.nil, { t := a0.t, c := a0.c, steps := (IntKind.i64.wrap (a0.steps - z3)) : GChecker }))
     (fun e5 => some (false, (Er.no e5), a0))))
theorem A_ck_covered (g : Nat) (a0 : GChecker) (a1 : List Fact) (a2 : Int) {r1 : Bool} {r2 : Er} {r3 : GChecker} (h : M_ck_covered g a0 a1 a2 = some (r1, r2, r3)) : ACallG cx 84 [.ptr 41 0 0 0, .sl 2 (a1.map cF), .c (.int .i64 a2)] [(41, ⟨130, 7, true, [[.sl 1 (a0.t.Vars.map cI), .sl 1 (a0.t.Init.map cI), .sl 2 (a0.t.Goal.map cF), .sl 4 (a0.t.Ops.map cGOp), .c (.int .i64 a0.c.Bound), .sl 2 (a0.c.Nogoods.map cN), .c (.int .i64 a0.steps)]]⟩)] [41] (.tup [.c (.bool r1), eA r2]) [(41, ⟨130, 7, true, [[.sl 1 (r3.t.Vars.map cI), .sl 1 (r3.t.Init.map cI), .sl 2 (r3.t.Goal.map cF), .sl 4 (r3.t.Ops.map cGOp), .c (.int .i64 r3.c.Bound), .sl 2 (r3.c.Nogoods.map cN), .c (.int .i64 r3.steps)]]⟩)] := by
  refine acallg_of 44 Tryz.func84 rfl (by decide) rfl (Nat.le_of_ble_eq_true rfl) rfl rfl ?_; intro _; unfold M_ck_covered at h; refine aSR ?_; intro _; refine dr ?_; refine aSR ?_; intro _; obtain ⟨z1, u1, h⟩ := ob1_ok h; refine clk [(29, 41)] [(41, ⟨0, some ⟨130, 7, true, [[.sl 1 (a0.t.Vars.map cI), .sl 1 (a0.t.Init.map cI), .sl 2 (a0.t.Goal.map cF), .sl 4 (a0.t.Ops.map cGOp), .c (.int .i64 a0.c.Bound), .sl 2 (a0.c.Nogoods.map cN), .c (.int .i64 a0.steps)]]⟩⟩)] (.sl 1 (z1.map cL_cF)) rfl rfl (A_ck_counting a0 a2 u1) ?_; intro _; obtain ⟨z2, z3, z4, u2, h⟩ := ob3_ok h; refine cl rfl (A_p_Covered g a0.t.Vars a1 z1 a0.steps u2) ?_; intro _; refine dr ?_; refine aSq ?_; refine aSq ?_; rcases z4 with _ | e5
  · replace h := erM_nil h; refine aRg ?_; intro _; refine dr ?_; refine aCd ?_; intro _; refine litF ?_; refine aSk ?_; refine aSR ?_; intro _; refine dr ?_; refine aSR ?_; intro _; refine dr ?_; refine aRt ?_; intro _; obtain ⟨rfl, rfl, rfl⟩ := inj3 h; all_goals (refine Exists.intro [] (And.intro rfl (And.intro ?_ ?_))); all_goals (exact zg_0)
  · replace h := erM_no h; refine aRg ?_; intro _; refine dr ?_; refine aCd ?_; intro _; refine litT ?_; refine aSR ?_; intro _; refine dr ?_; refine aRt ?_; intro _; obtain ⟨rfl, rfl, rfl⟩ := inj3 h; all_goals (refine Exists.intro [] (And.intro rfl (And.intro ?_ ?_))); all_goals (exact zg_0)
def M_ck_step_L1 (g : Nat) (v2 : Int) (z7 : List (List Fact)) : Nat → Int → (List Int) → (List Int) → (List Fact) → (List GOp) → Int → (List Nogood) → Int → Option (Er × GChecker)
  | 0, _, _, _, _, _, _, _, _ => none
  | k36 + 1, v28, v29, v30, v31, v32, v33, v34, v35 =>
    sel (decide (v28 < ((z7.map cL_cF).length : Int)))
     (ix z7 v28 (fun y37 =>
       ob3 (M_ck_covered g ({ t := { Vars := v29, Init := v30, Goal := v31, Ops := v32 : GTask }, c := { Bound := v33, Nogoods := v34 : GCertificate }, steps := v35 : GChecker }) y37 v2) (fun z38 z39 c40 =>
        erM z39
         (sel (!z38)
           (some ((Er.no 19), c40))
           (M_ck_step_L1 g v2 z7 k36 (IntKind.i64.wrap (v28 + 1)) c40.t.Vars c40.t.Init c40.t.Goal c40.t.Ops c40.c.Bound c40.c.Nogoods c40.steps))
         (fun e41 => some ((Er.no e41), c40)))))
     (some (Er.nil, { t := { Vars := v29, Init := v30, Goal := v31, Ops := v32 : GTask }, c := { Bound := v33, Nogoods := v34 : GCertificate }, steps := v35 : GChecker }))
def M_ck_step (g : Nat) (a0 : GChecker) (a1 : Nogood) (a2 : Int) : Option (Er × GChecker) :=
  ob1 (sel (decide (a0.c.Bound ≥ 0))
    (ix a0.t.Ops a2 (fun y6 =>
      sel (decide ((IntKind.i64.wrap (a1.2 + y6.Cost)) ≥ a0.c.Bound))
       (some (.inr (Er.nil, a0)))
       (some (.inl (IntKind.i64.wrap (a1.2 + y6.Cost))))))
    (some (.inl 0)) : Option (Int ⊕ (Er × GChecker)))
   (osum
   (fun v2 => ob2 (M_g_Regress g a0.t a2 a1.1) (fun z7 z8 =>
      erM z8
       (M_ck_step_L1 g v2 z7 ((((z7.map cL_cF).length : Int)).toNat + 1) 0 a0.t.Vars a0.t.Init a0.t.Goal a0.t.Ops a0.c.Bound a0.c.Nogoods a0.steps)
       (fun e9 => some ((Er.no e9), a0))))
   (fun (r3, r4) => some (r3, r4)))
theorem A_ck_step (g : Nat) (a0 : GChecker) (a1 : Nogood) (a2 : Int) {r1 : Er} {r2 : GChecker} (h : M_ck_step g a0 a1 a2 = some (r1, r2)) : ACallG cx 85 [.ptr 73 0 0 0, .agg [.sl 2 (a1.1.map cF), .c (.int .i64 a1.2)], .c (.int .i64 a2)] [(73, ⟨130, 7, true, [[.sl 1 (a0.t.Vars.map cI), .sl 1 (a0.t.Init.map cI), .sl 2 (a0.t.Goal.map cF), .sl 4 (a0.t.Ops.map cGOp), .c (.int .i64 a0.c.Bound), .sl 2 (a0.c.Nogoods.map cN), .c (.int .i64 a0.steps)]]⟩)] [73] (eA r1) [(73, ⟨130, 7, true, [[.sl 1 (r2.t.Vars.map cI), .sl 1 (r2.t.Init.map cI), .sl 2 (r2.t.Goal.map cF), .sl 4 (r2.t.Ops.map cGOp), .c (.int .i64 r2.c.Bound), .sl 2 (r2.c.Nogoods.map cN), .c (.int .i64 r2.steps)]]⟩)] := by
  refine acallg_of 76 Tryz.func85 rfl (by decide) rfl (Nat.le_of_ble_eq_true rfl) rfl rfl ?_; intro _; unfold M_ck_step at h; refine aSR ?_; intro _; refine dr ?_; refine aSR ?_; intro _; refine dr ?_; obtain ⟨o1, h, hK2⟩ := ob1_ok h; refine awp_cut (α := Int) (fun v2 => mkG 73 76 [(0, .ptr 73 0 0 0), (2, .c (.int .i64 a2)), (4, .ptr 4 0 0 0), (7, .c (.int .i64 v2))] [(4, ⟨40, 2, true, [[.sl 2 (a1.1.map cF), .c (.int .i64 a1.2)]]⟩), (73, ⟨130, 7, true, [[.sl 1 (a0.t.Vars.map cI), .sl 1 (a0.t.Init.map cI), .sl 2 (a0.t.Goal.map cF), .sl 4 (a0.t.Ops.map cGOp), .c (.int .i64 a0.c.Bound), .sl 2 (a0.c.Nogoods.map cN), .c (.int .i64 a0.steps)]]⟩)]) (fun v => o1 = (.inl v)) ?_ ?_
  · refine aSR ?_; intro _; refine dr ?_; refine aCd ?_; intro _; refine spl h (fun c3 h => ?_) (fun c3 h => ?_)
    · refine aSR ?_; intro _; obtain ⟨y6, w4, q5, h⟩ := ix_ok h; refine Exists.intro (cGOp y6) (And.intro (map_at' w4) ?_); intro _; refine pr ?_; refine dr ?_; refine aSR ?_; intro _; refine dr ?_; refine aCd ?_; intro _; refine spl h (fun c6 h => ?_) (fun c6 h => ?_)
      · refine aSR ?_; intro _; refine dr ?_; refine aRt ?_; have j7 := Option.some.inj h; subst j7; replace h := (osum_r hK2); intro _; obtain ⟨rfl, rfl⟩ := inj2 h; all_goals (refine Exists.intro [] (And.intro rfl (And.intro ?_ ?_))); all_goals (exact zg_0)
      · refine aSk ?_; refine ⟨(IntKind.i64.wrap (a1.2 + y6.Cost)), (Option.some.inj h).symm, ?_⟩; exact ca_0
    · refine aSk ?_; refine ⟨0, (Option.some.inj h).symm, ?_⟩; exact ca_0
  · rintro v2 ho; have ho := ho.symm; subst ho; intro _; replace h := (osum_l hK2); refine aSR ?_; intro _; obtain ⟨z7, z8, u8, h⟩ := ob2_ok h; refine cl rfl (A_g_Regress g a0.t a2 a1.1 u8) ?_; intro _; refine dr ?_; refine aSq ?_; refine aSq ?_; rcases z8 with _ | e9
    · replace h := erM_nil h; refine aRg ?_; intro _; refine dr ?_; refine aCd ?_; intro _; refine litF ?_; refine aSk ?_; refine aSq ?_; refine aSR ?_; intro _; refine dr ?_; refine aBk ?_; refine awp_loop (α := Nat × Int × (List Int) × (List Int) × (List Fact) × (List GOp) × Int × (List Nogood) × Int) (fun x => mkG 73 76 [(0, .ptr 73 0 0 0), (7, .c (.int .i64 v2)), (53, .sl 1 (z7.map cL_cF)), (54, .c (.int .i64 ((z7.map cL_cF).length : Int))), (55, .c (.int .i64 x.2.1))] [(73, ⟨130, 7, true, [[.sl 1 (x.2.2.1.map cI), .sl 1 (x.2.2.2.1.map cI), .sl 2 (x.2.2.2.2.1.map cF), .sl 4 (x.2.2.2.2.2.1.map cGOp), .c (.int .i64 x.2.2.2.2.2.2.1), .sl 2 (x.2.2.2.2.2.2.2.1.map cN), .c (.int .i64 x.2.2.2.2.2.2.2.2)]]⟩)]) (fun x => M_ck_step_L1 g v2 z7 x.1 x.2.1 x.2.2.1 x.2.2.2.1 x.2.2.2.2.1 x.2.2.2.2.2.1 x.2.2.2.2.2.2.1 x.2.2.2.2.2.2.2.1 x.2.2.2.2.2.2.2.2 = some (r1, r2)) (fun x => x.1) ((((z7.map cL_cF).length : Int)).toNat + 1, 0, a0.t.Vars, a0.t.Init, a0.t.Goal, a0.t.Ops, a0.c.Bound, a0.c.Nogoods, a0.steps) h ?_ ?_
      · exact ca_0
      · intro x9 h; intro _; obtain ⟨k36, m10, h⟩ := succ_of (f := fun n => M_ck_step_L1 g v2 z7 n x9.2.1 x9.2.2.1 x9.2.2.2.1 x9.2.2.2.2.1 x9.2.2.2.2.2.1 x9.2.2.2.2.2.2.1 x9.2.2.2.2.2.2.2.1 x9.2.2.2.2.2.2.2.2) rfl h; replace h : M_ck_step_L1 g v2 z7 (k36 + 1) x9.2.1 x9.2.2.1 x9.2.2.2.1 x9.2.2.2.2.1 x9.2.2.2.2.2.1 x9.2.2.2.2.2.2.1 x9.2.2.2.2.2.2.2.1 x9.2.2.2.2.2.2.2.2 = some (r1, r2) := h; rw [M_ck_step_L1] at h; refine aSR ?_; intro _; refine dr ?_; refine aSq ?_; refine aCd ?_; intro _; refine spl h (fun c11 h => ?_) (fun c11 h => ?_)
        · refine aSk ?_; refine aSq ?_; refine aBk ?_; refine aSR ?_; intro _; obtain ⟨y37, w12, q13, h⟩ := ix_ok h; refine Exists.intro (cL_cF y37) (And.intro (map_at' w12) ?_); intro _; refine pr ?_; refine dr ?_; refine aSR ?_; intro _; obtain ⟨z38, z39, c40, u14, h⟩ := ob3_ok h; refine clg [(41, 73)] [] [] [(73, ⟨0, some ⟨130, 7, true, [[.sl 1 (c40.t.Vars.map cI), .sl 1 (c40.t.Init.map cI), .sl 2 (c40.t.Goal.map cF), .sl 4 (c40.t.Ops.map cGOp), .c (.int .i64 c40.c.Bound), .sl 2 (c40.c.Nogoods.map cN), .c (.int .i64 c40.steps)]]⟩⟩)] (.tup [.c (.bool z38), eA z39]) rfl rfl (A_ck_covered g ({ t := { Vars := x9.2.2.1, Init := x9.2.2.2.1, Goal := x9.2.2.2.2.1, Ops := x9.2.2.2.2.2.1 : GTask }, c := { Bound := x9.2.2.2.2.2.2.1, Nogoods := x9.2.2.2.2.2.2.2.1 : GCertificate }, steps := x9.2.2.2.2.2.2.2.2 : GChecker }) y37 v2 u14) ?_; intro _; refine dr ?_; refine aSq ?_; refine aSq ?_; rcases z39 with _ | e41
          · replace h := erM_nil h; refine aRg ?_; intro _; refine dr ?_; refine aCd ?_; intro _; refine litF ?_; refine aSk ?_; refine aSR ?_; intro _; refine dr ?_; refine aCd ?_; intro _; refine spl h (fun c15 h => ?_) (fun c15 h => ?_)
            · refine aSR ?_; intro _; refine dr ?_; refine aRt ?_; intro _; obtain ⟨rfl, rfl⟩ := inj2 h; all_goals (refine Exists.intro [] (And.intro rfl (And.intro ?_ ?_))); all_goals (exact zg_0)
            · refine aSk ?_; refine aRg ?_; intro _; refine dr ?_; refine ⟨(k36, (IntKind.i64.wrap (x9.2.1 + 1)), c40.t.Vars, c40.t.Init, c40.t.Goal, c40.t.Ops, c40.c.Bound, c40.c.Nogoods, c40.steps), h, ltS m10, ?_⟩; exact ca_0
          · replace h := erM_no h; refine aRg ?_; intro _; refine dr ?_; refine aCd ?_; intro _; refine litT ?_; refine aSR ?_; intro _; refine dr ?_; refine aRt ?_; intro _; obtain ⟨rfl, rfl⟩ := inj2 h; all_goals (refine Exists.intro [] (And.intro rfl (And.intro ?_ ?_))); all_goals (exact zg_0)
        · refine aEx ?_; refine aSR ?_; intro _; refine dr ?_; refine aRt ?_; intro _; obtain ⟨rfl, rfl⟩ := inj2 h; all_goals (refine Exists.intro [] (And.intro rfl (And.intro ?_ ?_))); all_goals (exact zg_0)
    · replace h := erM_no h; refine aRg ?_; intro _; refine dr ?_; refine aCd ?_; intro _; refine litT ?_; refine aSR ?_; intro _; refine dr ?_; refine aRt ?_; intro _; obtain ⟨rfl, rfl⟩ := inj2 h; all_goals (refine Exists.intro [] (And.intro rfl (And.intro ?_ ?_))); all_goals (exact zg_0)
def M_checker_Where_L1 (a0 : GTask) (a1 : GCertificate) : Nat → Int → Option (Unit ⊕ (Int × Int × Er))
  | 0, _ => none
  | k24 + 1, v23 =>
    sel (decide (v23 < ((a1.Nogoods.map cN).length : Int)))
     (ix a1.Nogoods v23 (fun y25 =>
       ob1 (M_task_Holds y25.1 a0.Init) (fun z26 =>
        sel z26
         (some (.inr ((-1), (-1), (Er.no 20))))
         (M_checker_Where_L1 a0 a1 k24 (IntKind.i64.wrap (v23 + 1))))))
     (some (.inl ()))
def M_checker_Where_L2 (a0 : GTask) (g : Nat) (v184 : Int) (y231 : Nogood) : Nat → Int → (List Int) → (List Int) → (List Fact) → (List GOp) → Int → (List Nogood) → Int → Option (((List Int) × (List Int) × (List Fact) × (List GOp) × Int × (List Nogood) × Int) ⊕ (Int × Int × Er))
  | 0, _, _, _, _, _, _, _, _ => none
  | k254 + 1, v246, v247, v248, v249, v250, v251, v252, v253 =>
    sel (decide (v246 < ((a0.Ops.map cGOp).length : Int)))
     (ob2 (M_ck_step g ({ t := { Vars := v247, Init := v248, Goal := v249, Ops := v250 : GTask }, c := { Bound := v251, Nogoods := v252 : GCertificate }, steps := v253 : GChecker }) y231 v246) (fun z255 c256 =>
       erM z255
        (M_checker_Where_L2 a0 g v184 y231 k254 (IntKind.i64.wrap (v246 + 1)) c256.t.Vars c256.t.Init c256.t.Goal c256.t.Ops c256.c.Bound c256.c.Nogoods c256.steps)
        (fun e257 => some (.inr (v184, v246, (Er.no e257))))))
     (some (.inl (v247, v248, v249, v250, v251, v252, v253)))
def M_checker_Where_L3 (a0 : GTask) (a1 : GCertificate) (g : Nat) : Nat → Int → (List Int) → (List Int) → (List Fact) → (List GOp) → Int → (List Nogood) → Int → Option (Int × Int × Er)
  | 0, _, _, _, _, _, _, _, _ => none
  | k192 + 1, v184, v185, v186, v187, v188, v189, v190, v191 =>
    sel (decide (v184 < ((a1.Nogoods.map cN).length : Int)))
     (ob1 (ix a1.Nogoods v184 (fun y231 =>
        M_checker_Where_L2 a0 g v184 y231 ((((a0.Ops.map cGOp).length : Int)).toNat + 1) 0 v185 v186 v187 v188 v189 v190 v191) : Option (((List Int) × (List Int) × (List Fact) × (List GOp) × Int × (List Nogood) × Int) ⊕ (Int × Int × Er)))
       (osum
       (fun (v220, v221, v222, v223, v224, v225, v226) => M_checker_Where_L3 a0 a1 g k192 (IntKind.i64.wrap (v184 + 1)) v220 v221 v222 v223 v224 v225 v226)
       (fun (r227, r228, r229) => some (r227, r228, r229))))
     (some ((-1), (-1), Er.nil))
def M_checker_Where (g : Nat) (a0 : GTask) (a1 : GCertificate) (a2 : Int) : Option (Int × Int × Er) :=
  ob1 (M_task_Check a0) (fun z1 =>
   erM z1
    (ob1 (M_ce_Proper a0.Vars a1) (fun z3 =>
      erM z3
       (ob1 (M_checker_Where_L1 a0 a1 ((((a1.Nogoods.map cN).length : Int)).toNat + 1) 0 : Option (Unit ⊕ (Int × Int × Er)))
         (osum
         (fun _ => ob1 (sel (a1.Bound != 0)
             (ob3 (M_ck_covered g ({ t := a0, c := a1, steps := (max 0 (min a2 1048576)) : GChecker }) a0.Goal 0) (fun z42 z43 c44 =>
               erM z43
                (sel (!z42)
                  (some (.inr ((-1), (-1), (Er.no 13))))
                  (some (.inl (c44.t.Vars, c44.t.Init, c44.t.Goal, c44.t.Ops, c44.c.Bound, c44.c.Nogoods, c44.steps))))
                (fun e45 => some (.inr ((-1), (-1), (Er.no e45))))))
             (some (.inl (a0.Vars, a0.Init, a0.Goal, a0.Ops, a1.Bound, a1.Nogoods, (max 0 (min a2 1048576))))) : Option (((List Int) × (List Int) × (List Fact) × (List GOp) × Int × (List Nogood) × Int) ⊕ (Int × Int × Er)))
            (osum
            (fun (v31, v32, v33, v34, v35, v36, v37) => M_checker_Where_L3 a0 a1 g ((((a1.Nogoods.map cN).length : Int)).toNat + 1) 0 v31 v32 v33 v34 v35 v36 v37)
            (fun (r38, r39, r40) => some (r38, r39, r40))))
         (fun (r14, r15, r16) => some (r14, r15, r16))))
       (fun e4 => some ((-1), (-1), (Er.no e4)))))
    (fun e2 => some ((-1), (-1), (Er.no e2))))
theorem A_checker_Where (g : Nat) (a0 : GTask) (a1 : GCertificate) (a2 : Int) {r1 : Int} {r2 : Int} {r3 : Er} (h : M_checker_Where g a0 a1 a2 = some (r1, r2, r3)) : ACall cx 56 [.agg [.sl 1 (a0.Vars.map cI), .sl 1 (a0.Init.map cI), .sl 2 (a0.Goal.map cF), .sl 4 (a0.Ops.map cGOp)], .agg [.c (.int .i64 a1.Bound), .sl 2 (a1.Nogoods.map cN)], .c (.int .i64 a2)] (.tup [.c (.int .i64 r1), .c (.int .i64 r2), eA r3]) := by
  refine aOf Tryz.func56 rfl (by decide) rfl (Nat.le_of_ble_eq_true rfl) ?_; intro _; unfold M_checker_Where at h; refine aSR ?_; intro _; refine dr ?_; refine aSq ?_; refine aSR ?_; intro _; obtain ⟨z1, u1, h⟩ := ob1_ok h; refine cl rfl (A_task_Check a0 u1) ?_; intro _; refine dr ?_; refine aSq ?_; rcases z1 with _ | e2
  · replace h := erM_nil h; refine aRg ?_; intro _; refine dr ?_; refine aCd ?_; intro _; refine litF ?_; refine aSk ?_; refine aSq ?_; refine aSR ?_; intro _; obtain ⟨z3, u2, h⟩ := ob1_ok h; refine cl rfl (A_ce_Proper a0.Vars a1 u2) ?_; intro _; refine dr ?_; refine aSq ?_; rcases z3 with _ | e4
    · replace h := erM_nil h; refine aRg ?_; intro _; refine dr ?_; refine aCd ?_; intro _; refine litF ?_; refine aSk ?_; obtain ⟨o3, h, hK4⟩ := ob1_ok h; refine awp_cut (α := Unit) (fun _ => mkS 94 [(2, .c (.int .i64 a2)), (3, .ptr 3 0 0 0), (4, .ptr 4 0 0 0)] [(3, ⟨26, 4, true, [[.sl 1 (a0.Vars.map cI), .sl 1 (a0.Init.map cI), .sl 2 (a0.Goal.map cF), .sl 4 (a0.Ops.map cGOp)]]⟩), (4, ⟨31, 2, true, [[.c (.int .i64 a1.Bound), .sl 2 (a1.Nogoods.map cN)]]⟩)]) (fun v => o3 = (.inl v)) ?_ ?_
      · refine aSR ?_; intro _; refine dr ?_; refine aBk ?_; refine awp_loop (α := Nat × Int) (fun x => mkS 94 [(2, .c (.int .i64 a2)), (3, .ptr 3 0 0 0), (4, .ptr 4 0 0 0), (33, .sl 2 (a1.Nogoods.map cN)), (34, .c (.int .i64 ((a1.Nogoods.map cN).length : Int))), (35, .c (.int .i64 x.2))] [(3, ⟨26, 4, true, [[.sl 1 (a0.Vars.map cI), .sl 1 (a0.Init.map cI), .sl 2 (a0.Goal.map cF), .sl 4 (a0.Ops.map cGOp)]]⟩), (4, ⟨31, 2, true, [[.c (.int .i64 a1.Bound), .sl 2 (a1.Nogoods.map cN)]]⟩)]) (fun x => M_checker_Where_L1 a0 a1 x.1 x.2 = some o3) (fun x => x.1) ((((a1.Nogoods.map cN).length : Int)).toNat + 1, 0) h ?_ ?_
        · exact ca_0
        · intro x5 h; intro _; obtain ⟨k24, m6, h⟩ := succ_of (f := fun n => M_checker_Where_L1 a0 a1 n x5.2) rfl h; replace h : M_checker_Where_L1 a0 a1 (k24 + 1) x5.2 = some o3 := h; rw [M_checker_Where_L1] at h; refine aSR ?_; intro _; refine dr ?_; refine aSq ?_; refine aCd ?_; intro _; refine spl h (fun c7 h => ?_) (fun c7 h => ?_)
          · refine aSk ?_; refine aSq ?_; refine aBk ?_; refine aSR ?_; intro _; obtain ⟨y25, w8, q9, h⟩ := ix_ok h; refine Exists.intro (cN y25) (And.intro (map_at' w8) ?_); intro _; refine pr ?_; refine dr ?_; refine aSR ?_; intro _; obtain ⟨z26, u10, h⟩ := ob1_ok h; refine cl rfl (A_task_Holds y25.1 a0.Init u10) ?_; intro _; refine dr ?_; refine aCd ?_; intro _; refine spl h (fun c11 h => ?_) (fun c11 h => ?_)
            · refine aSR ?_; intro _; refine dr ?_; refine aRt ?_; have j12 := Option.some.inj h; subst j12; replace h := (osum_r hK4); intro _; obtain ⟨rfl, rfl, rfl⟩ := inj3 h; exact ca_0
            · refine aSk ?_; refine aRg ?_; intro _; refine dr ?_; refine ⟨(k24, (IntKind.i64.wrap (x5.2 + 1))), h, ltS m6, ?_⟩; exact ca_0
          · refine aEx ?_; refine ⟨(), (Option.some.inj h).symm, ?_⟩; exact ca_0
      · rintro _ ho; have ho := ho.symm; subst ho; intro _; replace h := (osum_l hK4); refine aSR ?_; intro _; refine ⟨_, lf_min rfl (Nat.le_of_ble_eq_true rfl) rfl rfl, ?_⟩; intro _; refine ⟨_, lf_max rfl (Nat.le_of_ble_eq_true rfl) rfl rfl, ?_⟩; intro _; refine dr ?_; obtain ⟨o13, h, hK14⟩ := ob1_ok h; refine awp_cut (α := (List Int) × (List Int) × (List Fact) × (List GOp) × Int × (List Nogood) × Int) (fun (v31, v32, v33, v34, v35, v36, v37) => mkS 94 [(3, .ptr 3 0 0 0), (4, .ptr 4 0 0 0), (13, .ptr 52 0 0 0)] [(3, ⟨26, 4, true, [[.sl 1 (a0.Vars.map cI), .sl 1 (a0.Init.map cI), .sl 2 (a0.Goal.map cF), .sl 4 (a0.Ops.map cGOp)]]⟩), (4, ⟨31, 2, true, [[.c (.int .i64 a1.Bound), .sl 2 (a1.Nogoods.map cN)]]⟩), (52, ⟨130, 7, true, [[.sl 1 (v31.map cI), .sl 1 (v32.map cI), .sl 2 (v33.map cF), .sl 4 (v34.map cGOp), .c (.int .i64 v35), .sl 2 (v36.map cN), .c (.int .i64 v37)]]⟩)]) (fun v => o13 = (.inl v)) ?_ ?_
        · refine aSR ?_; intro _; refine dr ?_; refine aCd ?_; intro _; refine spl h (fun c15 h => ?_) (fun c15 h => ?_)
          · refine aSR ?_; intro _; obtain ⟨z42, z43, c44, u16, h⟩ := ob3_ok h; refine clg [(41, 52)] [] [] [(52, ⟨1, some ⟨130, 7, true, [[.sl 1 (c44.t.Vars.map cI), .sl 1 (c44.t.Init.map cI), .sl 2 (c44.t.Goal.map cF), .sl 4 (c44.t.Ops.map cGOp), .c (.int .i64 c44.c.Bound), .sl 2 (c44.c.Nogoods.map cN), .c (.int .i64 c44.steps)]]⟩⟩)] (.tup [.c (.bool z42), eA z43]) rfl rfl (A_ck_covered g ({ t := a0, c := a1, steps := (max 0 (min a2 1048576)) : GChecker }) a0.Goal 0 u16) ?_; intro _; refine dr ?_; refine aSq ?_; refine aSq ?_; rcases z43 with _ | e45
            · replace h := erM_nil h; refine aRg ?_; intro _; refine dr ?_; refine aCd ?_; intro _; refine litF ?_; refine aSk ?_; refine aSR ?_; intro _; refine dr ?_; refine aCd ?_; intro _; refine spl h (fun c17 h => ?_) (fun c17 h => ?_)
              · refine aSR ?_; intro _; refine dr ?_; refine aRt ?_; have j18 := Option.some.inj h; subst j18; replace h := (osum_r hK14); intro _; obtain ⟨rfl, rfl, rfl⟩ := inj3 h; exact ca_0
              · refine aSk ?_; refine ⟨(c44.t.Vars, c44.t.Init, c44.t.Goal, c44.t.Ops, c44.c.Bound, c44.c.Nogoods, c44.steps), (Option.some.inj h).symm, ?_⟩; exact ca_0
            · replace h := erM_no h; refine aRg ?_; intro _; refine dr ?_; refine aCd ?_; intro _; refine litT ?_; refine aSR ?_; intro _; refine dr ?_; refine aRt ?_; have j19 := Option.some.inj h; subst j19; replace h := (osum_r hK14); intro _; obtain ⟨rfl, rfl, rfl⟩ := inj3 h; exact ca_0
          · refine aSk ?_; refine ⟨(a0.Vars, a0.Init, a0.Goal, a0.Ops, a1.Bound, a1.Nogoods, (max 0 (min a2 1048576))), (Option.some.inj h).symm, ?_⟩; exact ca_0
        · rintro ⟨v31, v32, v33, v34, v35, v36, v37⟩ ho; have ho := ho.symm; subst ho; intro _; replace h := (osum_l hK14); refine aSq ?_; refine aSR ?_; intro _; refine dr ?_; refine aBk ?_; refine awp_loop (α := Nat × Int × (List Int) × (List Int) × (List Fact) × (List GOp) × Int × (List Nogood) × Int) (fun x => mkS 94 [(3, .ptr 3 0 0 0), (13, .ptr 52 0 0 0), (70, .sl 2 (a1.Nogoods.map cN)), (71, .c (.int .i64 ((a1.Nogoods.map cN).length : Int))), (72, .c (.int .i64 x.2.1))] [(3, ⟨26, 4, true, [[.sl 1 (a0.Vars.map cI), .sl 1 (a0.Init.map cI), .sl 2 (a0.Goal.map cF), .sl 4 (a0.Ops.map cGOp)]]⟩), (52, ⟨130, 7, true, [[.sl 1 (x.2.2.1.map cI), .sl 1 (x.2.2.2.1.map cI), .sl 2 (x.2.2.2.2.1.map cF), .sl 4 (x.2.2.2.2.2.1.map cGOp), .c (.int .i64 x.2.2.2.2.2.2.1), .sl 2 (x.2.2.2.2.2.2.2.1.map cN), .c (.int .i64 x.2.2.2.2.2.2.2.2)]]⟩)]) (fun x => M_checker_Where_L3 a0 a1 g x.1 x.2.1 x.2.2.1 x.2.2.2.1 x.2.2.2.2.1 x.2.2.2.2.2.1 x.2.2.2.2.2.2.1 x.2.2.2.2.2.2.2.1 x.2.2.2.2.2.2.2.2 = some (r1, r2, r3)) (fun x => x.1) ((((a1.Nogoods.map cN).length : Int)).toNat + 1, 0, v31, v32, v33, v34, v35, v36, v37) h ?_ ?_
          · exact ca_0
          · intro x20 h; intro _; obtain ⟨k192, m21, h⟩ := succ_of (f := fun n => M_checker_Where_L3 a0 a1 g n x20.2.1 x20.2.2.1 x20.2.2.2.1 x20.2.2.2.2.1 x20.2.2.2.2.2.1 x20.2.2.2.2.2.2.1 x20.2.2.2.2.2.2.2.1 x20.2.2.2.2.2.2.2.2) rfl h; replace h : M_checker_Where_L3 a0 a1 g (k192 + 1) x20.2.1 x20.2.2.1 x20.2.2.2.1 x20.2.2.2.2.1 x20.2.2.2.2.2.1 x20.2.2.2.2.2.2.1 x20.2.2.2.2.2.2.2.1 x20.2.2.2.2.2.2.2.2 = some (r1, r2, r3) := h; rw [M_checker_Where_L3] at h; refine aSR ?_; intro _; refine dr ?_; refine aSq ?_; refine aCd ?_; intro _; refine spl h (fun c22 h => ?_) (fun c22 h => ?_)
            · refine aSk ?_; obtain ⟨o23, h, hK24⟩ := ob1_ok h; refine awp_cut (α := (List Int) × (List Int) × (List Fact) × (List GOp) × Int × (List Nogood) × Int) (fun (v220, v221, v222, v223, v224, v225, v226) => mkS 94 [(3, .ptr 3 0 0 0), (13, .ptr 52 0 0 0), (70, .sl 2 (a1.Nogoods.map cN)), (71, .c (.int .i64 ((a1.Nogoods.map cN).length : Int))), (72, .c (.int .i64 x20.2.1))] [(3, ⟨26, 4, true, [[.sl 1 (a0.Vars.map cI), .sl 1 (a0.Init.map cI), .sl 2 (a0.Goal.map cF), .sl 4 (a0.Ops.map cGOp)]]⟩), (52, ⟨130, 7, true, [[.sl 1 (v220.map cI), .sl 1 (v221.map cI), .sl 2 (v222.map cF), .sl 4 (v223.map cGOp), .c (.int .i64 v224), .sl 2 (v225.map cN), .c (.int .i64 v226)]]⟩)]) (fun v => o23 = (.inl v)) ?_ ?_
              · refine aBk ?_; refine aSR ?_; intro _; obtain ⟨y231, w25, q26, h⟩ := ix_ok h; refine Exists.intro (cN y231) (And.intro (map_at' w25) ?_); intro _; refine pr ?_; refine dr ?_; refine aSR ?_; intro _; refine dr ?_; refine aBk ?_; refine awp_loop (α := Nat × Int × (List Int) × (List Int) × (List Fact) × (List GOp) × Int × (List Nogood) × Int) (fun x => mkS 94 [(3, .ptr 3 0 0 0), (13, .ptr 52 0 0 0), (16, .c (.int .i64 x20.2.1)), (17, .ptr 17 0 0 0), (70, .sl 2 (a1.Nogoods.map cN)), (71, .c (.int .i64 ((a1.Nogoods.map cN).length : Int))), (72, .c (.int .i64 x20.2.1)), (79, .c (.int .i64 ((a0.Ops.map cGOp).length : Int))), (80, .c (.int .i64 x.2.1))] [(3, ⟨26, 4, true, [[.sl 1 (a0.Vars.map cI), .sl 1 (a0.Init.map cI), .sl 2 (a0.Goal.map cF), .sl 4 (a0.Ops.map cGOp)]]⟩), (17, ⟨40, 2, true, [[.sl 2 (y231.1.map cF), .c (.int .i64 y231.2)]]⟩), (52, ⟨130, 7, true, [[.sl 1 (x.2.2.1.map cI), .sl 1 (x.2.2.2.1.map cI), .sl 2 (x.2.2.2.2.1.map cF), .sl 4 (x.2.2.2.2.2.1.map cGOp), .c (.int .i64 x.2.2.2.2.2.2.1), .sl 2 (x.2.2.2.2.2.2.2.1.map cN), .c (.int .i64 x.2.2.2.2.2.2.2.2)]]⟩)]) (fun x => M_checker_Where_L2 a0 g x20.2.1 y231 x.1 x.2.1 x.2.2.1 x.2.2.2.1 x.2.2.2.2.1 x.2.2.2.2.2.1 x.2.2.2.2.2.2.1 x.2.2.2.2.2.2.2.1 x.2.2.2.2.2.2.2.2 = some o23) (fun x => x.1) ((((a0.Ops.map cGOp).length : Int)).toNat + 1, 0, x20.2.2.1, x20.2.2.2.1, x20.2.2.2.2.1, x20.2.2.2.2.2.1, x20.2.2.2.2.2.2.1, x20.2.2.2.2.2.2.2.1, x20.2.2.2.2.2.2.2.2) h ?_ ?_
                · exact ca_0
                · intro x27 h; intro _; obtain ⟨k254, m28, h⟩ := succ_of (f := fun n => M_checker_Where_L2 a0 g x20.2.1 y231 n x27.2.1 x27.2.2.1 x27.2.2.2.1 x27.2.2.2.2.1 x27.2.2.2.2.2.1 x27.2.2.2.2.2.2.1 x27.2.2.2.2.2.2.2.1 x27.2.2.2.2.2.2.2.2) rfl h; replace h : M_checker_Where_L2 a0 g x20.2.1 y231 (k254 + 1) x27.2.1 x27.2.2.1 x27.2.2.2.1 x27.2.2.2.2.1 x27.2.2.2.2.2.1 x27.2.2.2.2.2.2.1 x27.2.2.2.2.2.2.2.1 x27.2.2.2.2.2.2.2.2 = some o23 := h; rw [M_checker_Where_L2] at h; refine aSR ?_; intro _; refine dr ?_; refine aSq ?_; refine aCd ?_; intro _; refine spl h (fun c29 h => ?_) (fun c29 h => ?_)
                  · refine aSk ?_; refine aSq ?_; refine aBk ?_; refine aSR ?_; intro _; refine dr ?_; refine aSR ?_; intro _; obtain ⟨z255, c256, u30, h⟩ := ob2_ok h; refine clg [(73, 52)] [] [] [(52, ⟨0, some ⟨130, 7, true, [[.sl 1 (c256.t.Vars.map cI), .sl 1 (c256.t.Init.map cI), .sl 2 (c256.t.Goal.map cF), .sl 4 (c256.t.Ops.map cGOp), .c (.int .i64 c256.c.Bound), .sl 2 (c256.c.Nogoods.map cN), .c (.int .i64 c256.steps)]]⟩⟩)] (eA z255) rfl rfl (A_ck_step g ({ t := { Vars := x27.2.2.1, Init := x27.2.2.2.1, Goal := x27.2.2.2.2.1, Ops := x27.2.2.2.2.2.1 : GTask }, c := { Bound := x27.2.2.2.2.2.2.1, Nogoods := x27.2.2.2.2.2.2.2.1 : GCertificate }, steps := x27.2.2.2.2.2.2.2.2 : GChecker }) y231 x27.2.1 u30) ?_; intro _; refine dr ?_; refine aSq ?_; rcases z255 with _ | e257
                    · replace h := erM_nil h; refine aRg ?_; intro _; refine dr ?_; refine aCd ?_; intro _; refine litF ?_; refine aSk ?_; refine aRg ?_; intro _; refine dr ?_; refine ⟨(k254, (IntKind.i64.wrap (x27.2.1 + 1)), c256.t.Vars, c256.t.Init, c256.t.Goal, c256.t.Ops, c256.c.Bound, c256.c.Nogoods, c256.steps), h, ltS m28, ?_⟩; exact ca_0
                    · replace h := erM_no h; refine aRg ?_; intro _; refine dr ?_; refine aCd ?_; intro _; refine litT ?_; refine aSR ?_; intro _; refine dr ?_; refine aRt ?_; have j31 := Option.some.inj h; subst j31; replace h := (osum_r hK24); intro _; obtain ⟨rfl, rfl, rfl⟩ := inj3 h; exact ca_0
                  · refine aEx ?_; refine ⟨(x27.2.2.1, x27.2.2.2.1, x27.2.2.2.2.1, x27.2.2.2.2.2.1, x27.2.2.2.2.2.2.1, x27.2.2.2.2.2.2.2.1, x27.2.2.2.2.2.2.2.2), (Option.some.inj h).symm, ?_⟩; exact ca_0
              · rintro ⟨v220, v221, v222, v223, v224, v225, v226⟩ ho; have ho := ho.symm; subst ho; intro _; replace h := (osum_l hK24); refine aRg ?_; intro _; refine dr ?_; refine ⟨(k192, (IntKind.i64.wrap (x20.2.1 + 1)), v220, v221, v222, v223, v224, v225, v226), h, ltS m21, ?_⟩; exact ca_0
            · refine aEx ?_; refine aSR ?_; intro _; refine dr ?_; refine aRt ?_; intro _; obtain ⟨rfl, rfl, rfl⟩ := inj3 h; exact ca_0
    · replace h := erM_no h; refine aRg ?_; intro _; refine dr ?_; refine aCd ?_; intro _; refine litT ?_; refine aSR ?_; intro _; refine dr ?_; refine aRt ?_; intro _; obtain ⟨rfl, rfl, rfl⟩ := inj3 h; exact ca_0
  · replace h := erM_no h; refine aRg ?_; intro _; refine dr ?_; refine aCd ?_; intro _; refine litT ?_; refine aSR ?_; intro _; refine dr ?_; refine aRt ?_; intro _; obtain ⟨rfl, rfl, rfl⟩ := inj3 h; exact ca_0
def M_checker_Verify (g : Nat) (a0 : GTask) (a1 : GCertificate) (a2 : Int) : Option (Er) :=
  ob3 (M_checker_Where g a0 a1 a2) (fun _ _ z3 =>
   some z3)
theorem A_checker_Verify (g : Nat) (a0 : GTask) (a1 : GCertificate) (a2 : Int) {r1 : Er} (h : M_checker_Verify g a0 a1 a2 = some r1) : ACall cx 26 [.agg [.sl 1 (a0.Vars.map cI), .sl 1 (a0.Init.map cI), .sl 2 (a0.Goal.map cF), .sl 4 (a0.Ops.map cGOp)], .agg [.c (.int .i64 a1.Bound), .sl 2 (a1.Nogoods.map cN)], .c (.int .i64 a2)] (eA r1) := by
  refine aOf Tryz.func26 rfl (by decide) rfl (Nat.le_of_ble_eq_true rfl) ?_; intro _; unfold M_checker_Verify at h; refine aSR ?_; intro _; refine dr ?_; refine aSR ?_; intro _; obtain ⟨z1, z2, z3, u1, h⟩ := ob3_ok h; refine cl rfl (A_checker_Where g a0 a1 a2 u1) ?_; intro _; refine dr ?_; refine aSR ?_; intro _; refine dr ?_; refine aRt ?_; intro _; obtain rfl := inj1 h; all_goals (cases z3); all_goals exact ca_0
end Go.Proofs.YtohjegemooakpaaGreat.Am
/- Range loops of the models as recursions. -/
namespace Go.Proofs.YtohjegemooakpaaGreat.Am
def M_ce_formed_L1_B (a0 : List Fact) (_y7 : Fact) (v5 : Int) : Unit → (Unit → Option (Bool)) → Option (Bool) := fun _ rc => ixv _y7 (fun y7 =>
       sel (decide (y7.1 < 0))
        (some false)
        (sel (decide (y7.1 ≥ 64))
          (some false)
          (sel (decide (y7.2 < 0))
            (some false)
            (sel (decide (y7.2 ≥ 64))
              (some false)
              (sel (decide (v5 > 0))
                (ix a0 (IntKind.i64.wrap (v5 - 1)) (fun y8 =>
                  sel (decide (y8.1 ≥ y7.1))
                   (some false)
                   (rc ())))
                (rc ()))))))
def M_ce_formed_L1_E (_ : List Fact) : Unit → Option (Bool) := fun _ => some true
theorem M_ce_formed_L1_eq (a0 : List Fact)  (hl : a0.length < 9223372036854775807) : M_ce_formed_L1 a0 (((a0.map cF).length : Int).toNat + 1) 0 = Rg (M_ce_formed_L1_B a0) (M_ce_formed_L1_E a0) a0 0 () := rg_e1 (L := fun k i _ => M_ce_formed_L1 a0 k i) hl (fun _ _ _ => rfl) ()
def M_ce_Check_L1_B (_ : GCertificate) (_y21 : Nogood) (_ : Int) : Unit → (Unit → Option (Unit ⊕ Er)) → Option (Unit ⊕ Er) := fun _ rc => ixv _y21 (fun y21 =>
       ob1 (M_ce_formed y21.1) (fun z22 =>
        sel (!z22)
         (some (.inr (Er.no 2)))
         (rc ())))
def M_ce_Check_L1_E (_ : GCertificate) : Unit → Option (Unit ⊕ Er) := fun _ => some (.inl ())
theorem M_ce_Check_L1_eq (a0 : GCertificate)  (hl : a0.Nogoods.length < 9223372036854775807) : M_ce_Check_L1 a0 (((a0.Nogoods.map cN).length : Int).toNat + 1) 0 = Rg (M_ce_Check_L1_B a0) (M_ce_Check_L1_E a0) a0.Nogoods 0 () := rg_e1 (L := fun k i _ => M_ce_Check_L1 a0 k i) hl (fun _ _ _ => rfl) ()
def M_ce_Check_L2_B (a0 : GCertificate) (_y28 : Nogood) (_ : Int) : Unit → (Unit → Option (Er)) → Option (Er) := fun _ rc => ixv _y28 (fun y28 =>
       sel (decide (y28.2 < 0))
        (some (Er.no 1))
        (sel (decide (a0.Bound ≥ 0))
          (sel (decide (y28.2 ≥ a0.Bound))
            (some (Er.no 1))
            (sel (decide (a0.Bound < 0))
              (sel (y28.2 != 0)
                (some (Er.no 1))
                (rc ()))
              (rc ())))
          (sel (decide (a0.Bound < 0))
            (sel (y28.2 != 0)
              (some (Er.no 1))
              (rc ()))
            (rc ()))))
def M_ce_Check_L2_E (_ : GCertificate) : Unit → Option (Er) := fun _ => some Er.nil
theorem M_ce_Check_L2_eq (a0 : GCertificate)  (hl : a0.Nogoods.length < 9223372036854775807) : M_ce_Check_L2 a0 (((a0.Nogoods.map cN).length : Int).toNat + 1) 0 = Rg (M_ce_Check_L2_B a0) (M_ce_Check_L2_E a0) a0.Nogoods 0 () := rg_e1 (L := fun k i _ => M_ce_Check_L2 a0 k i) hl (fun _ _ _ => rfl) ()
def M_ce_Proper_L1_B (a0 : List Int) (_ : GCertificate) (_y10 : Nogood) (_ : Int) : Unit → (Unit → Option (Er)) → Option (Er) := fun _ rc => ixv _y10 (fun y10 =>
       ob1 (M_task_Facts a0 y10.1) (fun z11 =>
        sel (!z11)
         (some (Er.no 2))
         (rc ())))
def M_ce_Proper_L1_E (_ : List Int) (_ : GCertificate) : Unit → Option (Er) := fun _ => some Er.nil
theorem M_ce_Proper_L1_eq (a0 : List Int) (a1 : GCertificate)  (hl : a1.Nogoods.length < 9223372036854775807) : M_ce_Proper_L1 a0 a1 (((a1.Nogoods.map cN).length : Int).toNat + 1) 0 = Rg (M_ce_Proper_L1_B a0 a1) (M_ce_Proper_L1_E a0 a1) a1.Nogoods 0 () := rg_e1 (L := fun k i _ => M_ce_Proper_L1 a0 a1 k i) hl (fun _ _ _ => rfl) ()
def M_ck_counting_L1_B (_ : GChecker) (a1 : Int) (_y8 : Nogood) (_ : Int) : ((List (List Fact))) → (((List (List Fact))) → Option (List (List Fact))) → Option (List (List Fact)) := fun v6 rc => ixv _y8 (fun y8 =>
       sel (decide (y8.2 ≤ a1))
        (grd ((v6.length + 1) * 24 ≤ 140737488355328) (rc ((v6 ++ [y8.1]))))
        (rc (v6)))
def M_ck_counting_L1_E (_ : GChecker) (_ : Int) : ((List (List Fact))) → Option (List (List Fact)) := fun v6 => grd (v6.length ≤ 140737488355328) (some v6)
theorem M_ck_counting_L1_eq (a0 : GChecker) (a1 : Int) (v6 : List (List Fact)) (hl : a0.c.Nogoods.length < 9223372036854775807) : M_ck_counting_L1 a0 a1 (((a0.c.Nogoods.map cN).length : Int).toNat + 1) 0 v6 = Rg (M_ck_counting_L1_B a0 a1) (M_ck_counting_L1_E a0 a1) a0.c.Nogoods 0 v6 := rg_e1 (L := fun k i v6 => M_ck_counting_L1 a0 a1 k i v6) hl (fun _ _ _ => rfl) v6
def M_ck_step_L1_B (g : Nat) (v2 : Int) (_ : List (List Fact)) (_y37 : List Fact) (_ : Int) : ((List Int) × (List Int) × (List Fact) × (List GOp) × (Int) × (List Nogood) × (Int)) → (((List Int) × (List Int) × (List Fact) × (List GOp) × (Int) × (List Nogood) × (Int)) → Option (Er × GChecker)) → Option (Er × GChecker) := fun (v29, v30, v31, v32, v33, v34, v35) rc => ixv _y37 (fun y37 =>
       ob3 (M_ck_covered g ({ t := { Vars := v29, Init := v30, Goal := v31, Ops := v32 : GTask }, c := { Bound := v33, Nogoods := v34 : GCertificate }, steps := v35 : GChecker }) y37 v2) (fun z38 z39 c40 =>
        erM z39
         (sel (!z38)
           (some ((Er.no 19), c40))
           (rc (c40.t.Vars, c40.t.Init, c40.t.Goal, c40.t.Ops, c40.c.Bound, c40.c.Nogoods, c40.steps)))
         (fun e41 => some ((Er.no e41), c40))))
def M_ck_step_L1_E (_ : Nat) (_ : Int) (_ : List (List Fact)) : ((List Int) × (List Int) × (List Fact) × (List GOp) × (Int) × (List Nogood) × (Int)) → Option (Er × GChecker) := fun (v29, v30, v31, v32, v33, v34, v35) => some (Er.nil, { t := { Vars := v29, Init := v30, Goal := v31, Ops := v32 : GTask }, c := { Bound := v33, Nogoods := v34 : GCertificate }, steps := v35 : GChecker })
theorem M_ck_step_L1_eq (g : Nat) (v2 : Int) (z7 : List (List Fact)) (v29 : List Int) (v30 : List Int) (v31 : List Fact) (v32 : List GOp) (v33 : Int) (v34 : List Nogood) (v35 : Int) (hl : z7.length < 9223372036854775807) : M_ck_step_L1 g v2 z7 (((z7.map cL_cF).length : Int).toNat + 1) 0 v29 v30 v31 v32 v33 v34 v35 = Rg (M_ck_step_L1_B g v2 z7) (M_ck_step_L1_E g v2 z7) z7 0 (v29, v30, v31, v32, v33, v34, v35) := rg_e1 (L := fun k i p => match p with | (v29, v30, v31, v32, v33, v34, v35) => M_ck_step_L1 g v2 z7 k i v29 v30 v31 v32 v33 v34 v35) hl (fun _ _ ⟨_, _, _, _, _, _, _⟩ => rfl) (v29, v30, v31, v32, v33, v34, v35)
def M_checker_Where_L1_B (a0 : GTask) (_ : GCertificate) (_y25 : Nogood) (_ : Int) : Unit → (Unit → Option (Unit ⊕ (Int × Int × Er))) → Option (Unit ⊕ (Int × Int × Er)) := fun _ rc => ixv _y25 (fun y25 =>
       ob1 (M_task_Holds y25.1 a0.Init) (fun z26 =>
        sel z26
         (some (.inr ((-1), (-1), (Er.no 20))))
         (rc ())))
def M_checker_Where_L1_E (_ : GTask) (_ : GCertificate) : Unit → Option (Unit ⊕ (Int × Int × Er)) := fun _ => some (.inl ())
theorem M_checker_Where_L1_eq (a0 : GTask) (a1 : GCertificate)  (hl : a1.Nogoods.length < 9223372036854775807) : M_checker_Where_L1 a0 a1 (((a1.Nogoods.map cN).length : Int).toNat + 1) 0 = Rg (M_checker_Where_L1_B a0 a1) (M_checker_Where_L1_E a0 a1) a1.Nogoods 0 () := rg_e1 (L := fun k i _ => M_checker_Where_L1 a0 a1 k i) hl (fun _ _ _ => rfl) ()
def M_checker_Where_L2_B (_ : GTask) (g : Nat) (v184 : Int) (y231 : Nogood) (v246 : Int) : ((List Int) × (List Int) × (List Fact) × (List GOp) × (Int) × (List Nogood) × (Int)) → (((List Int) × (List Int) × (List Fact) × (List GOp) × (Int) × (List Nogood) × (Int)) → Option (((List Int) × (List Int) × (List Fact) × (List GOp) × Int × (List Nogood) × Int) ⊕ (Int × Int × Er))) → Option (((List Int) × (List Int) × (List Fact) × (List GOp) × Int × (List Nogood) × Int) ⊕ (Int × Int × Er)) := fun (v247, v248, v249, v250, v251, v252, v253) rc => ob2 (M_ck_step g ({ t := { Vars := v247, Init := v248, Goal := v249, Ops := v250 : GTask }, c := { Bound := v251, Nogoods := v252 : GCertificate }, steps := v253 : GChecker }) y231 v246) (fun z255 c256 =>
       erM z255
        (rc (c256.t.Vars, c256.t.Init, c256.t.Goal, c256.t.Ops, c256.c.Bound, c256.c.Nogoods, c256.steps))
        (fun e257 => some (.inr (v184, v246, (Er.no e257)))))
def M_checker_Where_L2_E (_ : GTask) (_ : Nat) (_ : Int) (_ : Nogood) : ((List Int) × (List Int) × (List Fact) × (List GOp) × (Int) × (List Nogood) × (Int)) → Option (((List Int) × (List Int) × (List Fact) × (List GOp) × Int × (List Nogood) × Int) ⊕ (Int × Int × Er)) := fun (v247, v248, v249, v250, v251, v252, v253) => some (.inl (v247, v248, v249, v250, v251, v252, v253))
theorem M_checker_Where_L2_eq (a0 : GTask) (g : Nat) (v184 : Int) (y231 : Nogood) (v247 : List Int) (v248 : List Int) (v249 : List Fact) (v250 : List GOp) (v251 : Int) (v252 : List Nogood) (v253 : Int) {m : Nat} (hm : ((a0.Ops.map cGOp).length : Int) = (m : Int)) (hl : m < 9223372036854775807) : M_checker_Where_L2 a0 g v184 y231 ((((a0.Ops.map cGOp).length : Int)).toNat + 1) 0 v247 v248 v249 v250 v251 v252 v253 = Rn (M_checker_Where_L2_B a0 g v184 y231) (M_checker_Where_L2_E a0 g v184 y231) m 0 (v247, v248, v249, v250, v251, v252, v253) := rn_e (L := fun k i p => match p with | (v247, v248, v249, v250, v251, v252, v253) => M_checker_Where_L2 a0 g v184 y231 k i v247 v248 v249 v250 v251 v252 v253) hm hl (fun _ _ ⟨_, _, _, _, _, _, _⟩ => rfl) (v247, v248, v249, v250, v251, v252, v253)
def M_checker_Where_L3_B (a0 : GTask) (_ : GCertificate) (g : Nat) (_y231 : Nogood) (v184 : Int) : ((List Int) × (List Int) × (List Fact) × (List GOp) × (Int) × (List Nogood) × (Int)) → (((List Int) × (List Int) × (List Fact) × (List GOp) × (Int) × (List Nogood) × (Int)) → Option (Int × Int × Er)) → Option (Int × Int × Er) := fun (v185, v186, v187, v188, v189, v190, v191) rc => ob1 (ixv _y231 (fun y231 =>
        M_checker_Where_L2 a0 g v184 y231 ((((a0.Ops.map cGOp).length : Int)).toNat + 1) 0 v185 v186 v187 v188 v189 v190 v191) : Option (((List Int) × (List Int) × (List Fact) × (List GOp) × Int × (List Nogood) × Int) ⊕ (Int × Int × Er)))
       (osum
       (fun (v220, v221, v222, v223, v224, v225, v226) => rc (v220, v221, v222, v223, v224, v225, v226))
       (fun (r227, r228, r229) => some (r227, r228, r229)))
def M_checker_Where_L3_E (_ : GTask) (_ : GCertificate) (_ : Nat) : ((List Int) × (List Int) × (List Fact) × (List GOp) × (Int) × (List Nogood) × (Int)) → Option (Int × Int × Er) := fun (_, _, _, _, _, _, _) => some ((-1), (-1), Er.nil)
theorem M_checker_Where_L3_eq (a0 : GTask) (a1 : GCertificate) (g : Nat) (v185 : List Int) (v186 : List Int) (v187 : List Fact) (v188 : List GOp) (v189 : Int) (v190 : List Nogood) (v191 : Int) (hl : a1.Nogoods.length < 9223372036854775807) : M_checker_Where_L3 a0 a1 g (((a1.Nogoods.map cN).length : Int).toNat + 1) 0 v185 v186 v187 v188 v189 v190 v191 = Rg (M_checker_Where_L3_B a0 a1 g) (M_checker_Where_L3_E a0 a1 g) a1.Nogoods 0 (v185, v186, v187, v188, v189, v190, v191) := rg_e2 (L := fun k i p => match p with | (v185, v186, v187, v188, v189, v190, v191) => M_checker_Where_L3 a0 a1 g k i v185 v186 v187 v188 v189 v190 v191) hl (fun k n p y hy h1 h2 => by first | (simp only [M_checker_Where_L3, M_checker_Where_L3_B, List.length_map, decide_lt h1, sel, ix_at hy, ixv, h2]; done) | (simp only [List.length_map] at h1 hy; (simp only [M_checker_Where_L3, M_checker_Where_L3_B, List.length_map, decide_lt h1, sel, ix_at hy, ixv, h2]; done))) (fun k p => by simp only [M_checker_Where_L3, M_checker_Where_L3_E, List.length_map, decide_ge, sel]) (v185, v186, v187, v188, v189, v190, v191)
end Go.Proofs.YtohjegemooakpaaGreat.Am
/- Plain: certificate.Check, Proper; task.Holds. -/
namespace Go.Proofs.YtohjegemooakpaaGreat.Am
open Go.RowKit
theorem tholds_eq (l : List Fact) (s : List Int) (hl : Sh l) : M_task_Holds l s = some (holdsF s l) := by
  rw [M_task_Holds, M_task_Holds_L1_eq l s hl.lt, rg_all (p := hold1 s) (c := some false)]
  · rw [M_task_Holds_L1_E, holdsF]; cases l.all (hold1 s) <;> rfl
  · intro x _ i rc
    rw [M_task_Holds_L1_B, ixv, sel_dec, sel_dec, List.length_map, hold1]
    by_cases h0 : x.1 < 0
    · rw [if_pos h0, decide_eq_false (by omega), Bool.false_and, if_neg (by decide)]
    · rw [if_neg h0, decide_eq_true (p := 0 ≤ x.1) (by omega), Bool.true_and]
      by_cases h1 : x.1 < s.length
      · rw [if_neg (by omega), decide_eq_true h1, Bool.true_and, ix_getD (d := 0) (by omega) h1, bne]
        cases s.getD x.1.toNat 0 == x.2 <;> rfl
      · rw [if_pos (by omega), decide_eq_false h1, Bool.false_and, if_neg (by decide)]
def limF (l : List Fact) : Bool := l.all fun x => decide (x.1 < 64 ∧ x.2 < 64)
def frmF (l : List Fact) : Bool := vF (-1) l && limF l
theorem formed_loop (l : List Fact) (hs : Sh l) : ∀ (r : List Fact) (n : Nat) (last : Int), l.drop n = r → n ≤ l.length → -1 ≤ last → (n = 0 → last = -1) → (∀ m, n = m + 1 → ∃ x, l[m]? = some x ∧ x.1 = last) → Rg (M_ce_formed_L1_B l) (M_ce_formed_L1_E l) r n () = some (vF last r && limF r)
  | [], _, _, _, _, _, _, _ => rfl
  | y :: r, n, last, hd, hn, hl, h0, hp => by
    rw [Rg, vF, limF, List.all_cons]
    obtain ⟨hy, hd', hlt⟩ := drop_cons hd
    have hih : 0 ≤ y.1 → Rg (M_ce_formed_L1_B l) (M_ce_formed_L1_E l) r ((n : Int) + 1) () = some (vF y.1 r && limF r) := fun h => formed_loop l hs r (n + 1) y.1 hd' hlt (by omega) (by omega) (fun m hm => ⟨y, by rw [show m = n by omega]; exact hy, rfl⟩)
    simp only [M_ce_formed_L1_B, ixv, sel_dec]
    by_cases h1 : y.1 < 0
    · rw [if_pos h1, decide_eq_false (p := last < y.1 ∧ 0 ≤ y.2) (by omega)]; rfl
    · rw [if_neg h1]
      by_cases h2 : y.1 ≥ 64
      · rw [if_pos h2, decide_eq_false (p := y.1 < 64 ∧ y.2 < 64) (by omega), Bool.false_and, Bool.and_false]
      · rw [if_neg h2]
        by_cases h3 : y.2 < 0
        · rw [if_pos h3, decide_eq_false (p := last < y.1 ∧ 0 ≤ y.2) (by omega)]; rfl
        · rw [if_neg h3]
          by_cases h4 : y.2 ≥ 64
          · rw [if_pos h4, decide_eq_false (p := y.1 < 64 ∧ y.2 < 64) (by omega), Bool.false_and, Bool.and_false]
          · rw [if_neg h4, decide_eq_true (p := y.1 < 64 ∧ y.2 < 64) (by omega), Bool.true_and]
            cases n with
            | zero =>
              have := h0 rfl
              rw [if_neg (by omega), decide_eq_true (p := last < y.1 ∧ 0 ≤ y.2) (by omega)]
              exact hih (by omega)
            | succ m =>
              obtain ⟨x, hx, hxl⟩ := hp m rfl
              rw [if_pos (by omega), w64 (by omega) (by have := hs; unfold Sh at this; omega), show (((m + 1 : Nat) : Int) - 1) = (m : Int) by omega, ix_at hx]
              by_cases h5 : x.1 ≥ y.1
              · rw [if_pos h5, decide_eq_false (p := last < y.1 ∧ 0 ≤ y.2) (by omega)]; rfl
              · rw [if_neg h5, decide_eq_true (p := last < y.1 ∧ 0 ≤ y.2) (by omega)]
                exact hih (by omega)
theorem formed_eq (l : List Fact) (hl : Sh l) : M_ce_formed l = some (frmF l) := by
  rw [M_ce_formed, M_ce_formed_L1_eq _ hl.lt]
  exact formed_loop l hl l 0 (-1) rfl (Nat.zero_le _) (by omega) (fun _ => rfl) (fun m hm => by omega)
/-- sizes of a certificate -/
structure ShC (c : GCertificate) : Prop where
  list : Sh c.Nogoods
  each : ∀ n ∈ c.Nogoods, Sh n.1
def distF (b : Int) (n : Nogood) : Bool := decide (0 ≤ n.2 ∧ (0 ≤ b → n.2 < b) ∧ (b < 0 → n.2 = 0))
def certF (c : GCertificate) : Er :=
  if c.Bound < -1 ∨ c.Bound > 1099511627776 then .no 1
  else if c.Nogoods.length > 4096 then .no 5
  else if (c.Nogoods.all fun n => frmF n.1) = true then (if (c.Nogoods.all (distF c.Bound)) = true then .nil else .no 1)
  else .no 2
theorem ccheck_eq (c : GCertificate) (hc : ShC c) : M_ce_Check c = some (certF c) := by
  rw [M_ce_Check, certF, sel_dec, sel_dec]
  by_cases h1 : c.Bound < -1
  · rw [if_pos h1, if_pos (Or.inl h1)]; rfl
  · rw [if_neg h1]
    by_cases h2 : c.Bound > 1099511627776
    · rw [if_pos h2, if_pos (Or.inr h2)]; rfl
    · rw [if_neg h2, if_neg (by omega), ob1_some, osum_inl, sel_dec, List.length_map]
      by_cases h3 : c.Nogoods.length > 4096
      · rw [if_pos (by omega), if_pos h3]
      · have e1 := M_ce_Check_L1_eq c (by omega)
        have e2 := M_ce_Check_L2_eq c (by omega)
        rw [List.length_map] at e1 e2
        rw [if_neg (by omega), if_neg h3, e1, rg_all (p := fun n : Nogood => frmF n.1) (c := some (.inr (Er.no 2)))]
        · cases ha : c.Nogoods.all fun n => frmF n.1 with
          | false => rw [if_neg (by decide), ob1_some, osum_inr, if_neg (by decide)]
          | true =>
            rw [if_pos rfl, if_pos rfl, M_ce_Check_L1_E, ob1_some, osum_inl, e2, rg_all (p := distF c.Bound) (c := some (Er.no 1)), M_ce_Check_L2_E]
            · split <;> rfl
            · intro n _ i rc
              rw [M_ce_Check_L2_B, ixv, distF]
              simp only [sel_dec]
              by_cases q1 : n.2 < 0
              · rw [if_pos q1, decide_eq_false (by omega)]; rfl
              · rw [if_neg q1]
                by_cases q2 : c.Bound ≥ 0
                · rw [if_pos q2]
                  by_cases q3 : n.2 ≥ c.Bound
                  · rw [if_pos q3, decide_eq_false (by omega)]; rfl
                  · rw [if_neg q3, if_neg (by omega), decide_eq_true (by omega)]; rfl
                · rw [if_neg q2, if_pos (by omega)]
                  by_cases q4 : n.2 = 0
                  · rw [show (n.2 != 0) = false from by simp [q4], sel_ff, decide_eq_true (by omega)]; rfl
                  · rw [show (n.2 != 0) = true from by simp [q4], sel_tt, decide_eq_false (by omega)]; rfl
        · intro n hn i rc
          rw [M_ce_Check_L1_B, ixv, formed_eq n.1 (hc.each n hn), ob1_some]
          cases frmF n.1 <;> rfl
def properF (vars : List Int) (c : GCertificate) : Er :=
  match certF c with
  | .nil => if (c.Nogoods.all fun n => propF vars (-1) n.1) = true then .nil else .no 2
  | .no e => .no e
theorem cproper_eq (vars : List Int) (c : GCertificate) (hc : ShC c) : M_ce_Proper vars c = some (properF vars c) := by
  have e1 := M_ce_Proper_L1_eq vars c hc.list.lt
  rw [M_ce_Proper, ccheck_eq c hc, ob1_some, properF, e1]
  cases certF c with
  | no e => rfl
  | nil =>
    show Rg _ _ _ _ _ = _
    rw [rg_all (p := fun n : Nogood => propF vars (-1) n.1) (c := some (Er.no 2)), M_ce_Proper_L1_E]
    · simp only; split <;> rfl
    · intro n hn i rc
      rw [M_ce_Proper_L1_B, ixv, facts_eq vars n.1 (hc.each n hn), ob1_some]
      cases propF vars (-1) n.1 <;> rfl
/-- a certificate that is proper -/
structure CertP (vars : List Int) (c : GCertificate) : Prop where
  b0 : -1 ≤ c.Bound
  b1 : c.Bound ≤ 1099511627776
  len : c.Nogoods.length ≤ 4096
  prop : ∀ n ∈ c.Nogoods, propF vars (-1) n.1 = true
  frm : ∀ n ∈ c.Nogoods, frmF n.1 = true
  d0 : ∀ n ∈ c.Nogoods, 0 ≤ n.2
  d1 : ∀ n ∈ c.Nogoods, 0 ≤ c.Bound → n.2 < c.Bound
  d2 : ∀ n ∈ c.Nogoods, c.Bound < 0 → n.2 = 0
theorem certF_nil (c : GCertificate) : certF c = .nil ↔ -1 ≤ c.Bound ∧ c.Bound ≤ 1099511627776 ∧ c.Nogoods.length ≤ 4096 ∧ (∀ n ∈ c.Nogoods, frmF n.1 = true) ∧ ∀ n ∈ c.Nogoods, distF c.Bound n = true := by
  unfold certF
  split
  · exact ⟨(nofun), fun h => by omega⟩
  · split
    · exact ⟨(nofun), fun h => by omega⟩
    · split
      · rename_i h
        rw [List.all_eq_true] at h
        split
        · rename_i h2
          rw [List.all_eq_true] at h2
          exact ⟨fun _ => ⟨by omega, by omega, by omega, h, h2⟩, fun _ => rfl⟩
        · rename_i h2
          rw [List.all_eq_true] at h2
          exact ⟨(nofun), fun hh => absurd hh.2.2.2.2 h2⟩
      · rename_i h
        rw [List.all_eq_true] at h
        exact ⟨(nofun), fun hh => absurd hh.2.2.2.1 h⟩
theorem properF_nil (vars : List Int) (c : GCertificate) : properF vars c = .nil ↔ CertP vars c := by
  unfold properF
  constructor
  · intro h
    cases hc : certF c with
    | no e => rw [hc] at h; cases h
    | nil =>
      rw [hc] at h
      simp only at h
      split at h
      · rename_i ha
        rw [List.all_eq_true] at ha
        obtain ⟨h1, h2, h3, h4, h5⟩ := (certF_nil c).1 hc
        have hd : ∀ n ∈ c.Nogoods, 0 ≤ n.2 ∧ (0 ≤ c.Bound → n.2 < c.Bound) ∧ (c.Bound < 0 → n.2 = 0) := fun n hn => of_decide_eq_true (h5 n hn)
        exact ⟨h1, h2, h3, ha, h4, fun n hn => (hd n hn).1, fun n hn => (hd n hn).2.1, fun n hn => (hd n hn).2.2⟩
      · cases h
  · intro h
    rw [(certF_nil c).2 ⟨h.b0, h.b1, h.len, h.frm, fun n hn => decide_eq_true ⟨h.d0 n hn, h.d1 n hn, h.d2 n hn⟩⟩]
    simp only
    rw [if_pos (List.all_eq_true.2 h.prop)]
end Go.Proofs.YtohjegemooakpaaGreat.Am
/- Plain: checker.Where, Verify. -/
namespace Go.Proofs.YtohjegemooakpaaGreat.Am
open Go.RowKit
def countL (ns : List Nogood) (d : Int) : List (List Fact) := (ns.filter fun n => decide (n.2 ≤ d)).map (·.1)
theorem count_loop (x : GChecker) (d : Int) : ∀ (r : List Nogood) (i : Int) (v : List (List Fact)), v.length + r.length ≤ 1000000 →
    Rg (M_ck_counting_L1_B x d) (M_ck_counting_L1_E x d) r i v = some (v ++ countL r d)
  | [], i, v, h => by rw [Rg, M_ck_counting_L1_E, grd_t (by simp at h; omega)]; simp [countL]
  | n :: r, i, v, h => by
    rw [List.length_cons] at h
    rw [Rg, M_ck_counting_L1_B, ixv, sel_dec]
    by_cases hd : n.2 ≤ d
    · rw [if_pos hd, grd_t (by omega), count_loop x d r _ _ (by simp; omega)]
      simp [countL, hd]
    · rw [if_neg hd, count_loop x d r _ _ (by omega)]
      simp [countL, hd]
theorem counting_eq (x : GChecker) (d : Int) (h : x.c.Nogoods.length ≤ 4096) : M_ck_counting x d = some (countL x.c.Nogoods d) := by
  rw [M_ck_counting, M_ck_counting_L1_eq x d [] (by omega), count_loop x d _ _ _ (by simp; omega), List.nil_append]
theorem count_prop {vars : List Int} {c : GCertificate} (h : CertP vars c) (d : Int) : PropL vars (countL c.Nogoods d) := fun x hx => by
  obtain ⟨n, hn, rfl⟩ := List.mem_map.1 hx
  exact h.prop n (List.mem_filter.1 hn).1
theorem count_len {vars : List Int} {c : GCertificate} (h : CertP vars c) (d : Int) : (countL c.Nogoods d).length ≤ 4096 := by
  unfold countL
  rw [List.length_map]
  exact Nat.le_trans (List.length_filter_le _ _) h.len
/-- one question, with the steps that are left -/
def askC (t : GTask) (c : GCertificate) (p : List Fact) (d r : Int) : Bool × Er × Int :=
  if (covA t.Vars p (countL c.Nogoods d)).2 ≤ r then ((covA t.Vars p (countL c.Nogoods d)).1, .nil, r - (covA t.Vars p (countL c.Nogoods d)).2) else (false, .no 10, r)
theorem covA_pos (vars : List Int) (p : List Fact) (l : List (List Fact)) : 1 ≤ (covA vars p l).2 := decA_pos _ _ _ _
theorem askC_r {t : GTask} {c : GCertificate} {p : List Fact} {d r : Int} (h : 0 ≤ r ∧ r ≤ 1048576) : 0 ≤ (askC t c p d r).2.2 ∧ (askC t c p d r).2.2 ≤ 1048576 := by
  have := covA_pos t.Vars p (countL c.Nogoods d)
  unfold askC
  split
  · show 0 ≤ r - _ ∧ r - _ ≤ _; omega
  · exact h
theorem ask_eq {t : GTask} {c : GCertificate} (hd : DomP t.Vars) (hc : CertP t.Vars c) (g : Nat) (hg : 70 ≤ g) (p : List Fact) (hp : propF t.Vars (-1) p = true) (d r : Int) (hr : 0 ≤ r ∧ r ≤ 1048576) :
    M_ck_covered g { t := t, c := c, steps := r } p d = some ((askC t c p d r).1, (askC t c p d r).2.1, { t := t, c := c, steps := (askC t c p d r).2.2 }) := by
  have hl := count_len hc d
  rw [M_ck_covered, counting_eq _ d hc.len, ob1_some]
  show ob3 (M_p_Covered g t.Vars p (countL c.Nogoods d) r) _ = _
  rw [covered_eq hd hp (count_prop hc d) (by omega) r (by omega) g (by omega), covR, askC]
  have hpos := covA_pos t.Vars p (countL c.Nogoods d)
  by_cases h : (covA t.Vars p (countL c.Nogoods d)).2 ≤ r
  · rw [if_pos h, if_pos h, ob3_some]
    show some (_, _, _) = some (_, _, _)
    rw [wrap_eq (by show _ ≤ r - _; omega) (by show r - _ ≤ _; omega)]
  · rw [if_neg h, if_neg h, ob3_some]; rfl
def stepL (t : GTask) (c : GCertificate) (d : Int) : List (List Fact) → Int → Er × Int
  | [], r => (.nil, r)
  | p :: ps, r => match askC t c p d r with
    | (true, .nil, r') => stepL t c d ps r'
    | (false, .nil, r') => (.no 19, r')
    | (_, .no e, r') => (.no e, r')
theorem stepL_r (t : GTask) (c : GCertificate) (d : Int) : ∀ (l : List (List Fact)) (r : Int), 0 ≤ r ∧ r ≤ 1048576 → 0 ≤ (stepL t c d l r).2 ∧ (stepL t c d l r).2 ≤ 1048576
  | [], r, h => h
  | p :: ps, r, h => by
    have ha := askC_r (t := t) (c := c) (p := p) (d := d) h
    rw [stepL]
    rcases hq : askC t c p d r with ⟨b, e, r'⟩
    rw [hq] at ha
    cases e with
    | no e => cases b <;> exact ha
    | nil =>
      cases b with
      | false => exact ha
      | true => exact stepL_r t c d ps r' ha
theorem step_loop {t : GTask} {c : GCertificate} (hd : DomP t.Vars) (hc : CertP t.Vars c) (g : Nat) (hg : 70 ≤ g) (d : Int) (z : List (List Fact)) : ∀ (l : List (List Fact)) (i r : Int), PropL t.Vars l → 0 ≤ r ∧ r ≤ 1048576 →
    Rg (M_ck_step_L1_B g d z) (M_ck_step_L1_E g d z) l i (t.Vars, t.Init, t.Goal, t.Ops, c.Bound, c.Nogoods, r) = some ((stepL t c d l r).1, { t := t, c := c, steps := (stepL t c d l r).2 })
  | [], i, r, _, _ => rfl
  | p :: ps, i, r, hl, hr => by
    rw [Rg, M_ck_step_L1_B]
    show ixv p (fun y37 => ob3 (M_ck_covered g { t := t, c := c, steps := r } y37 d) _) = _
    rw [ixv, ask_eq hd hc g hg p (hl p (List.mem_cons_self ..)) d r hr, ob3_some, stepL]
    have ha := askC_r (t := t) (c := c) (p := p) (d := d) hr
    rcases hq : askC t c p d r with ⟨b, e, r'⟩
    rw [hq] at ha
    cases e with
    | no e => cases b <;> rfl
    | nil =>
      cases b with
      | false => rfl
      | true => exact step_loop hd hc g hg d z ps _ r' (fun x hx => hl x (List.mem_cons_of_mem _ hx)) ha
def distO (c : GCertificate) (n : Nogood) (o : GOp) : Int := if 0 ≤ c.Bound then n.2 + o.Cost else 0
def skipO (c : GCertificate) (n : Nogood) (o : GOp) : Bool := decide (0 ≤ c.Bound ∧ c.Bound ≤ n.2 + o.Cost)
def stepO (t : GTask) (c : GCertificate) (n : Nogood) (o : GOp) (r : Int) : Er × Int :=
  if skipO c n o = true then (.nil, r)
  else match regO t.Vars o n.1 with
    | none => (.no 5, r)
    | some l => stepL t c (distO c n o) l r
theorem stepO_r (t : GTask) (c : GCertificate) (n : Nogood) (o : GOp) (r : Int) (h : 0 ≤ r ∧ r ≤ 1048576) : 0 ≤ (stepO t c n o r).2 ∧ (stepO t c n o r).2 ≤ 1048576 := by
  unfold stepO
  split
  · exact h
  · split
    · exact h
    · exact stepL_r _ _ _ _ _ h
theorem regO_len {t : GTask} (hgood : goodF t = true) {p : List Fact} (hpf : propF t.Vars (-1) p = true) {o : GOp} (ho : o ∈ t.Ops) {l : List (List Fact)} (h : regO t.Vars o p = some l) : PropL t.Vars l ∧ l.length ≤ 1024 := by
  unfold regO at h
  cases hr : regG t.Vars o p [o.Pre] with
  | none => rw [hr] at h; cases h
  | some m =>
    rw [hr, Option.map_some] at h
    obtain rfl := Option.some.inj h
    obtain ⟨l1, -, l3⟩ := pre_prop hgood hpf ho hr
    refine ⟨fun x hx => l1 x (List.mem_filter.1 ((sortLL_mem x _).1 hx)).1, ?_⟩
    rw [sortLL_length]
    exact Nat.le_trans (List.length_filter_le _ _) l3
theorem good_cost {t : GTask} (h : goodF t = true) {o : GOp} (ho : o ∈ t.Ops) : 0 ≤ o.Cost ∧ o.Cost ≤ 1048576 := by
  unfold goodF at h
  simp only [Bool.and_eq_true, List.all_eq_true] at h
  have := h.2.2.2.2 o ho
  unfold opF at this
  simp only [Bool.and_eq_true, decide_eq_true_iff] at this
  exact ⟨this.1.1, this.1.2.1⟩
theorem step_eq {t : GTask} (ht : ShT t) (hgood : goodF t = true) {c : GCertificate} (hc : CertP t.Vars c) (g : Nat) (hg : 70 ≤ g) (n : Nogood) (hn : n ∈ c.Nogoods) (j : Nat) (o : GOp) (hj : t.Ops[j]? = some o) (r : Int) (hr : 0 ≤ r ∧ r ≤ 1048576) :
    M_ck_step g { t := t, c := c, steps := r } n j = some ((stepO t c n o r).1, { t := t, c := c, steps := (stepO t c n o r).2 }) := by
  have hd := good_dom hgood
  have ho := List.mem_of_getElem? hj
  have hcost := good_cost hgood ho
  have hn0 := hc.d0 n hn
  have hn1 := hc.d1 n hn
  have hb1 := hc.b1
  have hw : 0 ≤ c.Bound → IntKind.i64.wrap (n.2 + o.Cost) = n.2 + o.Cost := fun h => wrap_eq (by omega) (by have := hn1 h; omega)
  have hreg : ∀ v : Int, v = distO c n o → skipO c n o = false → ob2 (M_g_Regress g t (j : Int) n.1) (fun z7 z8 =>
      erM z8 (M_ck_step_L1 g v z7 ((((z7.map cL_cF).length : Int)).toNat + 1) 0 t.Vars t.Init t.Goal t.Ops c.Bound c.Nogoods r)
       (fun e9 => some ((Er.no e9), ({ t := t, c := c, steps := r } : GChecker)))) = some ((stepO t c n o r).1, { t := t, c := c, steps := (stepO t c n o r).2 }) := by
    intro v hv hs
    rw [regress_eq t ht hgood n.1 (hc.prop n hn) g hg (j : Int) o (by omega) (by rw [Int.toNat_natCast]; exact hj), ob2_res, stepO, hs, if_neg (by decide)]
    cases hro : regO t.Vars o n.1 with
    | none => rfl
    | some l =>
      obtain ⟨l1, l2⟩ := regO_len hgood (hc.prop n hn) ho hro
      simp only
      rw [M_ck_step_L1_eq g v l _ _ _ _ _ _ _ (by omega), step_loop hd hc g hg v l l 0 r l1 hr, hv]
  rw [M_ck_step]
  simp only [sel_dec, ge_iff_le]
  by_cases h : 0 ≤ c.Bound
  · rw [if_pos h, ix_at hj, hw h]
    by_cases h2 : c.Bound ≤ n.2 + o.Cost
    · have hs : skipO c n o = true := decide_eq_true ⟨h, h2⟩
      rw [if_pos h2, ob1_some, osum_inr, stepO, hs, if_pos rfl]
    · rw [if_neg h2, ob1_some, osum_inl]
      exact hreg _ (by rw [distO, if_pos h]) (decide_eq_false (by omega))
  · rw [if_neg h, ob1_some, osum_inl]
    exact hreg _ (by rw [distO, if_neg h]) (decide_eq_false (by omega))
/-- the operators for one nogood: the steps left, or where it fails -/
def opsC (t : GTask) (c : GCertificate) (n : Nogood) (i : Int) : List GOp → Int → Int → Int ⊕ (Int × Int × Er)
  | [], _, r => .inl r
  | o :: os, j, r => match stepO t c n o r with
    | (.nil, r') => opsC t c n i os (j + 1) r'
    | (.no e, _) => .inr (i, j, .no e)
def nogC (t : GTask) (c : GCertificate) : List Nogood → Int → Int → Int × Int × Er
  | [], _, _ => (-1, -1, .nil)
  | n :: ns, i, r => match opsC t c n i t.Ops 0 r with
    | .inl r' => nogC t c ns (i + 1) r'
    | .inr x => x
theorem opsC_r (t : GTask) (c : GCertificate) (n : Nogood) (i : Int) : ∀ (l : List GOp) (j r : Int), 0 ≤ r ∧ r ≤ 1048576 → ∀ r', opsC t c n i l j r = .inl r' → 0 ≤ r' ∧ r' ≤ 1048576
  | [], j, r, h, r', e => by rw [opsC] at e; injection e with e; omega
  | o :: os, j, r, h, r', e => by
    have hs := stepO_r t c n o r h
    rw [opsC] at e
    rcases hq : stepO t c n o r with ⟨x, y⟩
    rw [hq] at e hs
    cases x with
    | no x => cases e
    | nil => exact opsC_r t c n i os (j + 1) y hs r' e
theorem ops_loop {t : GTask} (ht : ShT t) (hgood : goodF t = true) {c : GCertificate} (hc : CertP t.Vars c) (g : Nat) (hg : 70 ≤ g) (n : Nogood) (hn : n ∈ c.Nogoods) (i : Int) : ∀ (l : List GOp) (m j : Nat) (r : Int), t.Ops.drop j = l → l.length = m → 0 ≤ r ∧ r ≤ 1048576 →
    Rn (M_checker_Where_L2_B t g i n) (M_checker_Where_L2_E t g i n) m j (t.Vars, t.Init, t.Goal, t.Ops, c.Bound, c.Nogoods, r) = some (match opsC t c n i l j r with | .inl r' => .inl (t.Vars, t.Init, t.Goal, t.Ops, c.Bound, c.Nogoods, r') | .inr x => .inr x)
  | [], m, j, r, _, hm, _ => by subst hm; rfl
  | o :: os, m, j, r, hdr, hm, hr => by
    obtain ⟨hj, hd', hlt⟩ := drop_cons hdr
    obtain ⟨m, rfl⟩ : ∃ k, m = k + 1 := ⟨os.length, hm.symm⟩
    rw [Rn, M_checker_Where_L2_B]
    show ob2 (M_ck_step g { t := t, c := c, steps := r } n (j : Int)) _ = _
    have hs := stepO_r t c n o r hr
    rw [step_eq ht hgood hc g hg n hn j o hj r hr, ob2_some, opsC]
    rcases hq : stepO t c n o r with ⟨x, y⟩
    rw [hq] at hs
    cases x with
    | no x => rfl
    | nil => exact ops_loop ht hgood hc g hg n hn i os m (j + 1) y hd' (by simpa using hm) hs
theorem nog_loop {t : GTask} (ht : ShT t) (hgood : goodF t = true) {c : GCertificate} (hc : CertP t.Vars c) (g : Nat) (hg : 70 ≤ g) : ∀ (l : List Nogood) (i r : Int), (∀ n ∈ l, n ∈ c.Nogoods) → 0 ≤ r ∧ r ≤ 1048576 →
    Rg (M_checker_Where_L3_B t c g) (M_checker_Where_L3_E t c g) l i (t.Vars, t.Init, t.Goal, t.Ops, c.Bound, c.Nogoods, r) = some (nogC t c l i r)
  | [], i, r, _, _ => rfl
  | n :: ns, i, r, hl, hr => by
    have hops : t.Ops.length ≤ 4096 := by
      unfold goodF at hgood
      simp only [Bool.and_eq_true, decide_eq_true_iff] at hgood
      exact hgood.1.2
    rw [Rg, M_checker_Where_L3_B]
    show ob1 (ixv n (fun y231 => M_checker_Where_L2 t g i y231 ((((t.Ops.map cGOp).length : Int)).toNat + 1) 0 t.Vars t.Init t.Goal t.Ops c.Bound c.Nogoods r)) _ = _
    rw [ixv, M_checker_Where_L2_eq t g i n _ _ _ _ _ _ _ (m := t.Ops.length) (by rw [List.length_map]) (by omega)]
    have e := ops_loop ht hgood hc g hg n (hl n (List.mem_cons_self ..)) i t.Ops t.Ops.length 0 r rfl rfl hr
    have e' : Rn (M_checker_Where_L2_B t g i n) (M_checker_Where_L2_E t g i n) t.Ops.length 0 (t.Vars, t.Init, t.Goal, t.Ops, c.Bound, c.Nogoods, r) = _ := e
    rw [e', ob1_some, nogC]
    have hr2 := opsC_r t c n i t.Ops 0 r hr
    show osum _ _ (match opsC t c n i t.Ops 0 r with | .inl r' => _ | .inr x => _) = _
    cases ho : opsC t c n i t.Ops 0 r with
    | inl r' => exact nog_loop ht hgood hc g hg ns _ r' (fun x hx => hl x (List.mem_cons_of_mem _ hx)) (hr2 r' ho)
    | inr x => rfl
/-- what Where answers for a right task and certificate -/
def whereC (t : GTask) (c : GCertificate) (r : Int) : Int × Int × Er :=
  if c.Nogoods.any (fun n => holdsF t.Init n.1) = true then (-1, -1, .no 20)
  else if c.Bound = 0 then nogC t c c.Nogoods 0 r
  else match askC t c t.Goal 0 r with
    | (true, .nil, r') => nogC t c c.Nogoods 0 r'
    | (false, .nil, _) => (-1, -1, .no 13)
    | (_, .no e, _) => (-1, -1, .no e)
def whereF (t : GTask) (c : GCertificate) (steps : Int) : Int × Int × Er :=
  match checkF t with
  | .no e => (-1, -1, .no e)
  | .nil => match properF t.Vars c with
    | .no e => (-1, -1, .no e)
    | .nil => whereC t c (max 0 (min steps 1048576))
theorem where_eq (t : GTask) (ht : ShT t) (c : GCertificate) (hc : ShC c) (steps : Int) (g : Nat) (hg : 70 ≤ g) : M_checker_Where g t c steps = some (whereF t c steps) := by
  rw [M_checker_Where, check_eq t ht, ob1_some, whereF]
  cases hck : checkF t with
  | no e => rfl
  | nil =>
    have hgood := (good_check t).2 hck
    show ob1 (M_ce_Proper t.Vars c) _ = _
    rw [cproper_eq t.Vars c hc, ob1_some]
    cases hpr : properF t.Vars c with
    | no e => rfl
    | nil =>
      have hcp := (properF_nil t.Vars c).1 hpr
      have hd := good_dom hgood
      have e1 := M_checker_Where_L1_eq t c hc.list.lt
      have hr : 0 ≤ max 0 (min steps 1048576) ∧ max 0 (min steps 1048576) ≤ 1048576 := by omega
      have hgoal : propF t.Vars (-1) t.Goal = true := by
        unfold goodF at hgood
        simp only [Bool.and_eq_true] at hgood
        exact hgood.2.2.2.1
      show ob1 (M_checker_Where_L1 t c _ 0) _ = _
      rw [e1, rg_all (p := fun n : Nogood => !holdsF t.Init n.1) (c := some (.inr ((-1), (-1), (Er.no 20)))), whereC]
      · have hna : (c.Nogoods.all fun n => !holdsF t.Init n.1) = !(c.Nogoods.any fun n => holdsF t.Init n.1) := by rw [List.not_any_eq_all_not]
        rw [hna]
        cases ha : c.Nogoods.any fun n => holdsF t.Init n.1 with
        | true => rfl
        | false =>
          rw [Bool.not_false, if_pos rfl, M_checker_Where_L1_E, ob1_some, osum_inl, if_neg (by decide)]
          have hnog : ∀ r : Int, 0 ≤ r ∧ r ≤ 1048576 → M_checker_Where_L3 t c g ((((c.Nogoods.map cN).length : Int)).toNat + 1) 0 t.Vars t.Init t.Goal t.Ops c.Bound c.Nogoods r = some (nogC t c c.Nogoods 0 r) := fun r hr => by
            rw [M_checker_Where_L3_eq t c g _ _ _ _ _ _ _ hc.list.lt, nog_loop ht hgood hcp g hg c.Nogoods 0 r (fun _ h => h) hr]
          by_cases hb : c.Bound = 0
          · rw [if_pos hb, show (c.Bound != 0) = false from by simp [hb], sel_ff, ob1_some, osum_inl]
            exact hnog _ hr
          · rw [if_neg hb, show (c.Bound != 0) = true from by simp [hb], sel_tt, ask_eq hd hcp g hg t.Goal hgoal 0 _ hr, ob3_some]
            have ha := askC_r (t := t) (c := c) (p := t.Goal) (d := 0) hr
            rcases hq : askC t c t.Goal 0 (max 0 (min steps 1048576)) with ⟨b, e, r'⟩
            rw [hq] at ha
            cases e with
            | no e => cases b <;> rfl
            | nil =>
              cases b with
              | false => rfl
              | true => exact hnog r' ha
      · intro n hn i rc
        rw [M_checker_Where_L1_B, ixv, tholds_eq n.1 t.Init (hc.each n hn), ob1_some]
        cases holdsF t.Init n.1 <;> rfl
def verF (t : GTask) (c : GCertificate) (steps : Int) : Er := (whereF t c steps).2.2
theorem verify_eq (t : GTask) (ht : ShT t) (c : GCertificate) (hc : ShC c) (steps : Int) (g : Nat) (hg : 70 ≤ g) : M_checker_Verify g t c steps = some (verF t c steps) := by
  rw [M_checker_Verify, where_eq t ht c hc steps g hg]
  rfl
end Go.Proofs.YtohjegemooakpaaGreat.Am
/- Plain: what it means that a certificate is accepted, with any number of steps. -/
namespace Go.Proofs.YtohjegemooakpaaGreat.Am
open Go.RowKit
def claimsF (ns : List Nogood) (s : List Int) (d : Int) : Bool := ns.any fun n => decide (n.2 ≤ d) && holdsF s n.1
theorem some_count {s : List Int} {ns : List Nogood} {d : Int} : some1 s (countL ns d) ↔ claimsF ns s d = true := by
  unfold some1 countL claimsF
  rw [List.any_eq_true]
  constructor
  · rintro ⟨z, hz, h⟩
    obtain ⟨n, hn, rfl⟩ := List.mem_map.1 hz
    obtain ⟨h1, h2⟩ := List.mem_filter.1 hn
    exact ⟨n, h1, by rw [h2, h]; rfl⟩
  · rintro ⟨n, hn, h⟩
    rw [Bool.and_eq_true] at h
    exact ⟨n.1, List.mem_map.2 ⟨n, List.mem_filter.2 ⟨hn, h.1⟩, rfl⟩, h.2⟩
def covB (t : GTask) (c : GCertificate) (d : Int) (p : List Fact) : Bool := (covA t.Vars p (countL c.Nogoods d)).1
theorem covB_true {t : GTask} (hgood : goodF t = true) {c : GCertificate} (hc : CertP t.Vars c) {p : List Fact} (hp : propF t.Vars (-1) p = true) (d : Int) : covB t c d p = true ↔ ∀ s, stateF t.Vars s = true → holdsF s p = true → claimsF c.Nogoods s d = true := by
  rw [covB, covA_true (good_dom hgood) hp (count_prop hc d)]
  exact forall_congr' fun s => by rw [some_count]
/-- whether the state leads by the operator to p -/
def inF (o : GOp) (p : List Fact) (s : List Int) : Bool := holdsF s o.Pre && holdsF (nextF s o) p
theorem inF_iff {t : GTask} (hgood : goodF t = true) {o : GOp} (ho : o ∈ t.Ops) {s : List Int} (hs : StP t.Vars s) {p : List Fact} (hp : propF t.Vars (-1) p = true) {l : List (List Fact)} (h : regO t.Vars o p = some l) : some1 s l ↔ inF o p s = true := by
  rw [some_regO hgood ho hs hp h, inF, Bool.and_eq_true, holds_next hgood hs ho hp]
/-- the document's conditions -/
structure Acc (t : GTask) (c : GCertificate) : Prop where
  init : ∀ n ∈ c.Nogoods, holdsF t.Init n.1 = false
  goal : c.Bound ≠ 0 → ∀ s ∈ allF t, holdsF s t.Goal = true → claimsF c.Nogoods s 0 = true
  step : ∀ n ∈ c.Nogoods, ∀ o ∈ t.Ops, skipO c n o = false → ∀ s ∈ allF t, inF o n.1 s = true → claimsF c.Nogoods s (distO c n o) = true
theorem good_goal {t : GTask} (h : goodF t = true) : propF t.Vars (-1) t.Goal = true := by
  unfold goodF at h
  simp only [Bool.and_eq_true] at h
  exact h.2.2.2.1
theorem ask_nil {t : GTask} {c : GCertificate} {p : List Fact} {d r : Int} (h : (askC t c p d r).2.1 = .nil) : (askC t c p d r).1 = covB t c d p := by
  unfold askC at h ⊢
  split at h
  · rename_i h1; rw [if_pos h1]; rfl
  · cases h
theorem stepL_nil (t : GTask) (c : GCertificate) (d : Int) : ∀ (l : List (List Fact)) (r : Int), (stepL t c d l r).1 = .nil → ∀ p ∈ l, covB t c d p = true
  | [], r, _, p, hp => by cases hp
  | p :: ps, r, h, q, hq => by
    have ha := ask_nil (t := t) (c := c) (p := p) (d := d) (r := r)
    rw [stepL] at h
    rcases hk : askC t c p d r with ⟨b, e, r'⟩
    rw [hk] at ha h
    cases e with
    | no e => cases b <;> cases h
    | nil =>
      cases b with
      | false => cases h
      | true =>
        rcases List.mem_cons.1 hq with rfl | hq
        · exact (ha rfl).symm
        · exact stepL_nil t c d ps r' h q hq
theorem opsC_inl (t : GTask) (c : GCertificate) (n : Nogood) (i : Int) : ∀ (l : List GOp) (j r r' : Int), opsC t c n i l j r = .inl r' → ∀ o ∈ l, ∃ x, (stepO t c n o x).1 = .nil
  | [], j, r, r', _, o, ho => by cases ho
  | o :: os, j, r, r', h, u, hu => by
    rw [opsC] at h
    rcases hk : stepO t c n o r with ⟨e, y⟩
    rw [hk] at h
    cases e with
    | no e => cases h
    | nil =>
      rcases List.mem_cons.1 hu with rfl | hu
      · exact ⟨r, by rw [hk]⟩
      · exact opsC_inl t c n i os (j + 1) y r' h u hu
theorem nogC_nil (t : GTask) (c : GCertificate) : ∀ (l : List Nogood) (i r : Int), (nogC t c l i r).2.2 = .nil → ∀ n ∈ l, ∀ o ∈ t.Ops, ∃ x, (stepO t c n o x).1 = .nil
  | [], i, r, _, n, hn => by cases hn
  | n :: ns, i, r, h, u, hu => by
    rw [nogC] at h
    cases hk : opsC t c n i t.Ops 0 r with
    | inl r' =>
      rw [hk] at h
      rcases List.mem_cons.1 hu with rfl | hu
      · exact opsC_inl t c u i t.Ops 0 r r' hk
      · exact nogC_nil t c ns (i + 1) r' h u hu
    | inr x =>
      exfalso
      have key : ∀ (l : List GOp) (j r : Int) (x : Int × Int × Er), opsC t c n i l j r = .inr x → x.2.2 ≠ .nil := by
        intro l
        induction l with
        | nil => intro j r x e; cases e
        | cons o os ih =>
          intro j r x e
          rw [opsC] at e
          rcases hs : stepO t c n o r with ⟨e1, y⟩
          rw [hs] at e
          cases e1 with
          | no z => injection e with e; subst e; exact fun h => by cases h
          | nil => exact ih (j + 1) y x e
      rw [hk] at h
      exact key _ _ _ _ hk h
theorem step_acc {t : GTask} (hgood : goodF t = true) {c : GCertificate} (hc : CertP t.Vars c) (h : ∀ n ∈ c.Nogoods, ∀ o ∈ t.Ops, ∃ x, (stepO t c n o x).1 = .nil) : ∀ n ∈ c.Nogoods, ∀ o ∈ t.Ops, skipO c n o = false → ∀ s ∈ allF t, inF o n.1 s = true → claimsF c.Nogoods s (distO c n o) = true := by
  intro n hn o ho hsk s hs hi
  obtain ⟨x, hx⟩ := h n hn o ho
  rw [stepO, hsk, if_neg (by decide)] at hx
  cases hro : regO t.Vars o n.1 with
  | none => rw [hro] at hx; cases hx
  | some l =>
    rw [hro] at hx
    have hst := (allF_mem t s).1 hs
    obtain ⟨z, hz, hh⟩ := (inF_iff hgood ho (stateF_st hst) (hc.prop n hn) hro).2 hi
    exact (covB_true hgood hc ((regO_len hgood (hc.prop n hn) ho hro).1 z hz) _).1 (stepL_nil t c _ l x hx z hz) s hst hh
theorem ver_acc {t : GTask} {c : GCertificate} {steps : Int} (h : verF t c steps = .nil) : goodF t = true ∧ CertP t.Vars c ∧ Acc t c := by
  unfold verF whereF at h
  cases hck : checkF t with
  | no e => rw [hck] at h; cases h
  | nil =>
    have hgood := (good_check t).2 hck
    rw [hck] at h
    simp only at h
    cases hp : properF t.Vars c with
    | no e => rw [hp] at h; cases h
    | nil =>
      have hc := (properF_nil t.Vars c).1 hp
      rw [hp] at h
      simp only at h
      refine ⟨hgood, hc, ?_⟩
      unfold whereC at h
      cases hi : c.Nogoods.any fun n => holdsF t.Init n.1 with
      | true => rw [hi, if_pos rfl] at h; cases h
      | false =>
        rw [hi, if_neg (by decide)] at h
        have hin : ∀ n ∈ c.Nogoods, holdsF t.Init n.1 = false := fun n hn => by
          rw [Bool.eq_false_iff]
          intro h2
          rw [List.any_eq_true.2 ⟨n, hn, h2⟩] at hi
          cases hi
        by_cases hb : c.Bound = 0
        · rw [if_pos hb] at h
          exact ⟨hin, fun h2 => absurd hb h2, step_acc hgood hc (nogC_nil t c _ _ _ h)⟩
        · rw [if_neg hb] at h
          have ha := ask_nil (t := t) (c := c) (p := t.Goal) (d := 0) (r := max 0 (min steps 1048576))
          rcases hk : askC t c t.Goal 0 (max 0 (min steps 1048576)) with ⟨b, e, r'⟩
          rw [hk] at ha h
          cases e with
          | no e => cases b <;> cases h
          | nil =>
            cases b with
            | false => cases h
            | true => exact ⟨hin, fun _ s hs hh => (covB_true hgood hc (good_goal hgood) 0).1 (ha rfl).symm s ((allF_mem t s).1 hs) hh, step_acc hgood hc (nogC_nil t c _ _ _ h)⟩
end Go.Proofs.YtohjegemooakpaaGreat.Am
/- Plain law: the next state is a state. -/
namespace Go.Proofs.YtohjegemooakpaaGreat.Am
open Go.RowKit
end Go.Proofs.YtohjegemooakpaaGreat.Am
/- Plain law: container/heap over entries. -/
namespace Go.Proofs.YtohjegemooakpaaGreat.Am
open Go.RowKit
/-- entries in their order -/
def leE (a b : GEntry) : Prop := a.dist < b.dist ∨ (a.dist = b.dist ∧ a.order ≤ b.order)
theorem leE_trans {a b c : GEntry} (h1 : leE a b) (h2 : leE b c) : leE a c := by unfold leE at *; omega
def Le2 (l : List GEntry) (i j : Nat) : Prop := ∀ a b, l[i]? = some a → l[j]? = some b → leE a b
theorem Le2.trans {l : List GEntry} {i j k : Nat} (h1 : Le2 l i j) (h2 : Le2 l j k) (hj : j < l.length) : Le2 l i k := fun a c ha hc => leE_trans (h1 a _ ha (List.getElem?_eq_getElem hj)) (h2 _ c (List.getElem?_eq_getElem hj) hc)
def Heap (l : List GEntry) (n : Nat) : Prop := ∀ i, 0 < i → i < n → Le2 l ((i - 1) / 2) i
end Go.Proofs.YtohjegemooakpaaGreat.Am
/- Plain law: certify.Lower. -/
namespace Go.Proofs.YtohjegemooakpaaGreat.Am
open Go.RowKit
theorem subF_refl (a : List Fact) : subF a a = true := subF_iff.2 fun _ h => h
/-- what a step counts -/
def wc (b : Int) (o : GOp) : Int := if b < 0 then 0 else o.Cost
/-- the goal is reached from the state at this cost -/
inductive Rch (t : GTask) (b : Int) : List Int → Int → Prop
  | goal {s : List Int} : holdsF s t.Goal = true → Rch t b s 0
  | step {s : List Int} {o : GOp} {d : Int} : o ∈ t.Ops → holdsF s o.Pre = true → Rch t b (nextF s o) d → Rch t b s (d + wc b o)
/-- a partial state with a distance, as Lower makes them -/
structure EnP (t : GTask) (b : Int) (p : List Fact) (d : Int) : Prop where
  prop : propF t.Vars (-1) p = true
  d0 : 0 ≤ d
  d1 : 0 ≤ b → d < b
  d2 : b < 0 → d = 0
  snd : ∀ s, stateF t.Vars s = true → holdsF s p = true → Rch t b s d
def Covd (ns : List Nogood) (p : List Fact) (d : Int) : Prop := ∃ n ∈ ns, n.2 ≤ d ∧ subF n.1 p = true
/-- a step back from one distance to another -/
def Back (t : GTask) (b : Int) (o : GOp) (d d' : Int) : Prop := o ∈ t.Ops ∧ (b < 0 ∨ d + o.Cost < b) ∧ d' = (if b < 0 then 0 else d + o.Cost)
def Need (t : GTask) (b : Int) (ns : List Nogood) (p : List Fact) (d : Int) : Prop :=
  (p = t.Goal ∧ d = 0) ∨ ∃ n ∈ ns, ∃ o, Back t b o n.2 d ∧ ∃ l, regO t.Vars o n.1 = some l ∧ p ∈ l
structure Inv (t : GTask) (b : Int) (q : List GEntry) (ns : List Nogood) : Prop where
  heap : Heap q q.length
  qP : ∀ e ∈ q, EnP t b e.facts e.dist
  nP : ∀ n ∈ ns, EnP t b n.1 n.2
  nI : ∀ n ∈ ns, holdsF t.Init n.1 = false
  sep : ns.Pairwise fun x y => x.2 ≤ y.2 ∧ subF x.1 y.1 = false
  below : ∀ n ∈ ns, ∀ e ∈ q, n.2 ≤ e.dist
  need : ∀ p d, Need t b ns p d → Covd ns p d ∨ ∃ e ∈ q, e.facts = p ∧ e.dist = d
  qlen : q.length ≤ 1 + ns.length * 10240
theorem Inv.len {t : GTask} (hf : Fit t) {b : Int} {q : List GEntry} {ns : List Nogood} (h : Inv t b q ns) : ns.length ≤ 1024 := by
  have hn : (ns.map (·.1)).Nodup := List.pairwise_map.2 (h.sep.imp fun {x y} hxy e => by
    have := hxy.2
    rw [e, subF_refl] at this
    cases this)
  have := hf.cap.cap _ hn fun x hx => by
    obtain ⟨n, hn, rfl⟩ := List.mem_map.1 hx
    exact (h.nP n hn).prop
  rw [List.length_map] at this
  exact this
/-- what is pushed for a list of partial states -/
structure Pushed (d : Int) (r : List (List Fact)) (q q' : List GEntry) : Prop where
  heap : Heap q' q'.length
  len : q'.length = q.length + r.length
  old : ∀ x ∈ q, x ∈ q'
  new : ∀ x ∈ q', x ∈ q ∨ (x.facts ∈ r ∧ x.dist = d)
  all : ∀ p ∈ r, ∃ x ∈ q', x.facts = p ∧ x.dist = d
/-- what is pushed for the operators -/
structure PushO (t : GTask) (b : Int) (p : List Fact) (d : Int) (r : List GOp) (q q' : List GEntry) : Prop where
  heap : Heap q' q'.length
  len : q'.length ≤ q.length + r.length * 1024
  old : ∀ x ∈ q, x ∈ q'
  new : ∀ x ∈ q', x ∈ q ∨ ∃ o ∈ r, Back t b o d x.dist ∧ ∃ l, regO t.Vars o p = some l ∧ x.facts ∈ l
  all : ∀ o ∈ r, ∀ d', Back t b o d d' → ∀ l, regO t.Vars o p = some l → ∀ z ∈ l, ∃ x ∈ q', x.facts = z ∧ x.dist = d'
theorem pcont_eq (a b : List Fact) (ha : Sh a) (hb : Sh b) (va : vF (-1) a = true) (vb : vF (-1) b = true) : M_p_Contains a b = some (subF b a) := by
  rw [M_p_Contains, valid_eq a ha, va, ob1_some, sel_tt, valid_eq b hb, vb, ob1_some, sel_tt, contains_eq a b ha hb va vb, ob1_some]
end Go.Proofs.YtohjegemooakpaaGreat.Am
/- Regions in which some operations are shown by hand; slices.Delete's own operations. -/
namespace Go.Proofs.YtohjegemooakpaaGreat.Am
open Go.RowKit
theorem Tr.app {C : Cx} {n : Nat} {ops : Array Oper} : ∀ {os1 os2 : List Oper} {τ τ1 τ2 : Nat → AV} {η η1 η2 : Nat → Ent} {fs gs : List Foot}, Tr C n ops os1 τ η fs τ1 η1 → Tr C n ops os2 τ1 η1 gs τ2 η2 → Tr C n ops (os1 ++ os2) τ η (fs ++ gs) τ2 η2
  | [], _, _, _, _, _, _, _, [], _, h1, h2 => by
    obtain ⟨e1, e2⟩ := h1
    subst e1 e2
    exact h2
  | [], _, _, _, _, _, _, _, _ :: _, _, h1, _ => h1.elim
  | _ :: _, _, _, _, _, _, _, _, [], _, h1, _ => h1.elim
  | _ :: _, _, _, _, _, _, _, _, _ :: _, _, h1, h2 => ⟨h1.1, Tr.app h1.2 h2⟩
/-- the operations behind these many are shown by hand -/
def vcO (C : Cx) (ops : Array Oper) : List Nat → List Oper → List AV → List Ent → List Foot → (List Foot → List AV → List Ent → Prop) → Prop
  | [], os, tm, hp, fs, K => vcT C ops os [] tm hp [] [] (fun gs tm hp => K (fs ++ gs) tm hp)
  | k :: ks, os, tm, hp, fs, K => vcT C ops (os.take k) [] tm hp [] [] (fun gs tm hp => True → match os.drop k with
    | [] => False
    | o :: r => o.guard = none ∧ ∃ f, LF C tm.length o (tmF tm) (hpF hp) f ∧ stepK tm hp o.dst f.x f.ups (fun tm' hp' => vcO C ops ks r tm' hp' (fs ++ gs ++ [f]) K))
theorem vcO_ok {C : Cx} {ops : Array Oper} : ∀ (ks : List Nat) (os : List Oper) (tm : List AV) (hp : List Ent) (fs : List Foot) (K : List Foot → List AV → List Ent → Prop), vcO C ops ks os tm hp fs K →
    ∃ fs' tm' hp', Tr C tm.length ops os (tmF tm) (hpF hp) fs' (tmF tm') (hpF hp') ∧ K (fs ++ fs') tm' hp' ∧ tm'.length = tm.length
  | [], os, tm, hp, fs, K, h => by
    obtain ⟨fs', tm', hp', h1, _, h3, h4⟩ := vcT_ok _ _ _ _ _ _ _ (fun d b hd => by cases hd) h
    exact ⟨fs', tm', hp', h1, by simpa using h3, h4⟩
  | k :: ks, os, tm, hp, fs, K, h => by
    obtain ⟨gs, tm1, hp1, h1, _, h3, h4⟩ := vcT_ok _ _ _ _ _ _ _ (fun d b hd => by cases hd) h
    have h3 := h3 trivial
    have hos : os.take k ++ os.drop k = os := List.take_append_drop k os
    cases hd : os.drop k with
    | nil => rw [hd] at h3; exact h3.elim
    | cons o r =>
      rw [hd] at h3 hos
      obtain ⟨hg, f, hlf, hst⟩ := h3
      obtain ⟨_, tm2, hp2, e1, e2, e3, hv⟩ := stepK_ok hst
      obtain ⟨fs', tm', hp', t1, t2, t3⟩ := vcO_ok ks r tm2 hp2 _ K hv
      refine ⟨gs ++ f :: fs', tm', hp', ?_, by simpa using t2, by rw [t3, e1, h4]⟩
      rw [← hos]
      refine h1.app ⟨?_, ?_⟩
      · rw [← h4]; exact ts_run hlf (.inl hg)
      · rw [e2, e3, e1, h4] at t1
        exact t1
theorem awp_regionO {C : Cx} {Q : Exit → St → Prop} {id : Nat} {ops : Array Oper} {draw : Bool} {tm : List AV} {hp : List Ent} (ks : List Nat) (h : vcO C ops ks ops.toList tm hp [] (fun fs tm hp => (draw = true → indepOk ops fs = true ∧ backOk ops.toList 0 = true) ∧ Q .normal ⟨tm, hp⟩)) : AWP C (.region id ops draw) Q ⟨tm, hp⟩ := by
  unfold AWP
  intro w0 X m a w hr
  obtain ⟨fs, tm', hp', h1, ⟨h3, h4⟩, h5⟩ := vcO_ok _ _ _ _ _ _ h
  refine wp_region_tr h1 (fun hd => ⟨C.mixed, by simpa using (h3 hd).1, (h3 hd).2⟩) hr (fun m' a' w' hr' => ⟨⟨tm', hp'⟩, m', h5, h4, ?_⟩)
  unfold RepS
  rw [h5]
  exact hr'
end Go.Proofs.YtohjegemooakpaaGreat.Am
