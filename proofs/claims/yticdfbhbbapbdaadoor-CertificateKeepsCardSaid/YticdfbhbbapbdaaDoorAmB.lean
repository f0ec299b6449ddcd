/- An abstract machine (2): regions in every order, and an evaluator of regions whose head normal form is the state they end in. -/
import Derived.Test.YticdfbhbbapbdaaDoorAmA
namespace Go.Proofs.YticdfbhbbapbdaaDoor.Am
open Go.RowKit

structure Foot where
  x : AV
  ups : List (Nat × Ent)
  rb : List Nat
def Foot.ids (f : Foot) : List Nat := f.ups.map (·.1)
def updAll (η : Nat → Ent) : List (Nat × Ent) → Nat → Ent
  | [] => η
  | (i, e) :: r => updAll (updE η i e) r
theorem updAll_other {us : List (Nat × Ent)} : ∀ {η : Nat → Ent} {k : Nat}, k ∉ us.map (·.1) → updAll η us k = η k := by
  induction us with
  | nil => intro η k _; rfl
  | cons u r ih =>
    intro η k h
    obtain ⟨i, e⟩ := u
    simp at h
    rw [updAll, ih (by simpa using h.2)]
    simp [updE, h.1]
theorem updAll_same {us : List (Nat × Ent)} : ∀ {η η' : Nat → Ent} {k : Nat}, k ∈ us.map (·.1) → updAll η us k = updAll η' us k := by
  induction us with
  | nil => intro η η' k h; simp at h
  | cons u r ih =>
    intro η η' k h
    obtain ⟨i, e⟩ := u
    rw [updAll, updAll]
    by_cases hr : k ∈ r.map (·.1)
    · exact ih hr
    · rw [updAll_other hr, updAll_other hr]
      simp at h
      rcases h with rfl | h
      · simp [updE]
      · exact absurd (by simpa using h) hr

/-- one operation of a region, its guard looked at -/
def OpWp (C : Cx) (ops : Array Oper) (o : Oper) (a : Act) (w : World) (K : Act → World → Prop) : Prop :=
  if Region.wanted o (yielded ops a.tmps) then o.wp C.P a w K (fun _ _ _ => False) else K (a.put o.dst undef) w
/-- what an operation does, whatever else the state holds -/
def TS (C : Cx) (n : Nat) (ops : Array Oper) (o : Oper) (τ : Nat → AV) (η : Nat → Ent) (f : Foot) : Prop :=
  ∀ τ' η', (∀ t ∈ o.looksAt ops, τ' t = τ t) → (∀ i, i ∈ f.rb ∨ i ∈ f.ids → η' i = η i) →
    ∀ w0 X m a w, Rep C n w0 X τ' η' m a w → OpWp C ops o a w (fun a' w' => ∃ m', Rep C n w0 X (putA τ' o.dst f.x) (updAll η' f.ups) m' a' w')
def Tr (C : Cx) (n : Nat) (ops : Array Oper) : List Oper → (Nat → AV) → (Nat → Ent) → List Foot → (Nat → AV) → (Nat → Ent) → Prop
  | [], τ, η, [], τ', η' => τ' = τ ∧ η' = η
  | o :: os, τ, η, f :: fs, τ', η' => TS C n ops o τ η f ∧ Tr C n ops os (putA τ o.dst f.x) (updAll η f.ups) fs τ' η'
  | _, _, _, _, _, _ => False

section
variable {C : Cx} {n : Nat} {ops : Array Oper} {Q : Exit → Act → World → Prop}
theorem wpOp_of {i : Nat} {o : Oper} {a : Act} {w : World} {K K' : Act → World → Prop} (ho : ops[i]? = some o) (hk : ∀ a w, K a w → K' a w) (h : OpWp C ops o a w K) : wpOp C.P ops Q i K' a w := by
  unfold OpWp at h
  unfold wpOp
  simp only [ho]
  split
  · rename_i hw
    rw [if_pos hw] at h
    have h1 : o.wp C.P a w K' (fun _ _ _ => False) := Oper.wp_mono hk h
    refine .inl ?_
    unfold Oper.wp at h1 ⊢
    generalize (execOp a.eval o).run C.P w = r at h1 ⊢
    cases r with
    | ok nx w' =>
      cases nx <;> simp only [Oper.upon] at h1 ⊢ <;> first | exact h1 | (refine Calls.mono h1 (fun e w'' he => ?_); cases e <;> first | exact he | exact he.elim | (obtain ⟨_, _, hf⟩ := he; exact hf.elim))
    | halt x w' => cases x <;> simp only [Oper.upon] at h1 ⊢
  · rename_i hw
    rw [if_neg hw] at h
    exact hk _ _ h

theorem tr_seq : ∀ (os : List Oper) (k : Nat) (τ : Nat → AV) (η : Nat → Ent) (fs : List Foot) (τ' : Nat → AV) (η' : Nat → Ent), Tr C n ops os τ η fs τ' η' → (∀ j o, os[j]? = some o → ops[k + j]? = some o) →
    ∀ w0 X m a w, Rep C n w0 X τ η m a w → (∀ m' a' w', Rep C n w0 X τ' η' m' a' w' → Q .normal a' w') → wpOps C.P ops Q ((List.range os.length).map (k + ·)) a w
  | [], k, τ, η, [], τ', η', h, _, w0, X, m, a, w, hr, hq => by
    obtain ⟨rfl, rfl⟩ := h
    simpa [wpOps] using hq m a w hr
  | o :: os, k, τ, η, f :: fs, τ', η', h, hos, w0, X, m, a, w, hr, hq => by
    obtain ⟨h1, h2⟩ := h
    have e : (List.range (o :: os).length).map (k + ·) = k :: (List.range os.length).map ((k + 1) + ·) := by
      rw [List.length_cons, List.range_succ_eq_map, List.map_cons, List.map_map]
      congr 1
      exact List.map_congr_left (fun x _ => by simp; omega)
    rw [e, wpOps_cons]
    refine wpOp_of (by simpa using hos 0 o rfl) (fun a w hK => ?_) (h1 τ η (fun _ _ => rfl) (fun _ _ => rfl) w0 X m a w hr)
    obtain ⟨m', hr'⟩ := hK
    exact tr_seq os (k + 1) _ _ fs τ' η' h2 (fun j o' hj => by rw [Nat.add_assoc, Nat.add_comm 1 j]; exact hos (j + 1) o' (by simpa using hj)) w0 X m' a w hr' hq
  | [], _, _, _, _ :: _, _, _, h, _, _, _, _, _, _, _, _ => h.elim
  | _ :: _, _, _, _, [], _, _, h, _, _, _, _, _, _, _, _ => h.elim

/-- the masks of what comes before -/
def maskOf (o : Oper) (acc : List Nat) : Nat := o.after.toList.foldl (fun s e => if Region.binds .any e then s ||| 2 ^ e.on ||| acc.getD e.on 0 else s) 0
def befs : List Oper → List Nat → List Nat
  | [], acc => acc
  | o :: os, acc => befs os (acc ++ [maskOf o acc])
def Closed (ops : Array Oper) (D : Nat → Bool) : Prop := ∀ j o, ops[j]? = some o → D j = true → ∀ e ∈ o.after.toList, Region.binds .any e = true → D e.on = true
def GoodM (D : Nat → Bool) (acc : List Nat) : Prop := ∀ j i, (acc.getD j 0).testBit i = true → D j = true → D i = true
theorem mask_fold {D : Nat → Bool} {acc : List Nat} (hg : GoodM D acc) : ∀ (es : List Edge) (s : Nat), (∀ e ∈ es, Region.binds .any e = true → D e.on = true) → (∀ i, s.testBit i = true → D i = true) →
    ∀ i, (es.foldl (fun s e => if Region.binds .any e then s ||| 2 ^ e.on ||| acc.getD e.on 0 else s) s).testBit i = true → D i = true
  | [], s, _, hs, i, hi => hs i hi
  | e :: es, s, he, hs, i, hi => by
    rw [List.foldl_cons] at hi
    refine mask_fold hg es _ (fun x hx => he x (by simp [hx])) (fun k hk => ?_) i hi
    split at hk
    · rename_i hb
      have hd := he e (by simp) hb
      rw [Nat.testBit_or, Nat.testBit_or] at hk
      simp only [Bool.or_eq_true] at hk
      rcases hk with (h1 | h1) | h1
      · exact hs k h1
      · rw [Nat.testBit_two_pow] at h1
        simp at h1
        rw [← h1]; exact hd
      · exact hg _ k h1 hd
    · exact hs k hk
theorem befs_good {D : Nat → Bool} (hc : Closed ops D) : ∀ (os : List Oper) (acc : List Nat), (∀ j o, os[j]? = some o → ops[acc.length + j]? = some o) → GoodM D acc → GoodM D (befs os acc)
  | [], acc, _, hg => hg
  | o :: os, acc, hos, hg => by
    rw [befs]
    refine befs_good hc os _ (fun j o' hj => by
      have := hos (j + 1) o' (by simpa using hj)
      rw [List.length_append, List.length_singleton, Nat.add_assoc, Nat.add_comm 1 j]
      exact this) (fun j i hji hj => ?_)
    rcases Nat.lt_trichotomy j acc.length with h1 | h1 | h1
    · rw [List.getD_eq_getElem?_getD, List.getElem?_append_left h1, ← List.getD_eq_getElem?_getD] at hji
      exact hg j i hji hj
    · subst h1
      rw [List.getD_eq_getElem?_getD, List.getElem?_append_right (Nat.le_refl _)] at hji
      simp at hji
      exact mask_fold hg _ 0 (fun e he hb => hc _ o (by simpa using hos 0 o rfl) hj e he hb) (fun k hk => by simp at hk) i (by simpa [maskOf] using hji)
    · rw [List.getD_eq_getElem?_getD, List.getElem?_append_right (by omega)] at hji
      obtain ⟨q, hq⟩ : ∃ q, j - acc.length = q + 1 := ⟨j - acc.length - 1, by omega⟩
      rw [hq] at hji
      simp at hji
end

abbrev SE := (Nat → AV) × (Nat → Ent)
def updS (p : Oper × Foot) (s : SE) : SE := (putA s.1 p.1.dst p.2.x, updAll s.2 p.2.ups)
def appD (D : Nat → Bool) : List (Oper × Foot) → Nat → SE → SE
  | [], _, s => s
  | p :: r, k, s => appD D r (k + 1) (if D k then updS p s else s)
theorem putA_at {τ : Nat → AV} {d : Option Tmp} {x : AV} {t : Nat} (h : d ≠ some t) : putA τ d x t = τ t := by
  cases d with
  | none => rfl
  | some d =>
    have : t ≠ d := fun e => h (by rw [e])
    simp [putA, this]
theorem appD_tmp (D D' : Nat → Bool) (t : Nat) : ∀ (L : List (Oper × Foot)) (k : Nat) (s s' : SE), s.1 t = s'.1 t → (∀ (j : Nat) (p : Oper × Foot), L[j]? = some p → p.1.dst = some t → D (k + j) = D' (k + j)) → (appD D L k s).1 t = (appD D' L k s').1 t
  | [], _, _, _, h, _ => h
  | p :: r, k, s, s', h, hw => by
    rw [appD, appD]
    refine appD_tmp D D' t r (k + 1) _ _ ?_ (fun j q hq hd => by
      have := hw (j + 1) q (by simpa using hq) hd
      rw [show k + 1 + j = k + (j + 1) from by omega]
      exact this)
    by_cases hd : p.1.dst = some t
    · have := hw 0 p rfl hd
      simp only [Nat.add_zero] at this
      rw [this]
      split
      · simp [updS, putA, hd]
      · exact h
    · have e1 : ∀ q : SE, (updS p q).1 t = q.1 t := fun q => putA_at hd
      split <;> split <;> simp [e1, h]
theorem appD_ent (D D' : Nat → Bool) (i : Nat) : ∀ (L : List (Oper × Foot)) (k : Nat) (s s' : SE), s.2 i = s'.2 i → (∀ (j : Nat) (p : Oper × Foot), L[j]? = some p → i ∈ p.2.ids → D (k + j) = D' (k + j)) → (appD D L k s).2 i = (appD D' L k s').2 i
  | [], _, _, _, h, _ => h
  | p :: r, k, s, s', h, hw => by
    rw [appD, appD]
    refine appD_ent D D' i r (k + 1) _ _ ?_ (fun j q hq hd => by
      have := hw (j + 1) q (by simpa using hq) hd
      rw [show k + 1 + j = k + (j + 1) from by omega]
      exact this)
    by_cases hd : i ∈ p.2.ids
    · have := hw 0 p rfl hd
      simp only [Nat.add_zero] at this
      rw [this]
      split
      · exact updAll_same hd
      · exact h
    · have e1 : ∀ q : SE, (updS p q).2 i = q.2 i := fun q => updAll_other hd
      split <;> split <;> simp [e1, h]

def IndepW (p q : Oper × Foot) : Prop := (∀ d, p.1.dst = some d → q.1.dst ≠ some d) ∧ ∀ i ∈ p.2.ids, i ∉ q.2.ids
theorem updS_comm {p q : Oper × Foot} (h : IndepW p q) (s : SE) : updS q (updS p s) = updS p (updS q s) := by
  refine Prod.ext (funext fun t => ?_) (funext fun i => ?_)
  · by_cases h1 : p.1.dst = some t
    · have h2 := h.1 t h1
      show putA (putA s.1 p.1.dst p.2.x) q.1.dst q.2.x t = putA (putA s.1 q.1.dst q.2.x) p.1.dst p.2.x t
      rw [putA_at h2]
      simp [putA, h1]
    · show putA (putA s.1 p.1.dst p.2.x) q.1.dst q.2.x t = putA (putA s.1 q.1.dst q.2.x) p.1.dst p.2.x t
      rw [putA_at (d := p.1.dst) h1]
      by_cases h2 : q.1.dst = some t
      · simp [putA, h2]
      · rw [putA_at h2, putA_at h2, putA_at h1]
  · show updAll (updAll s.2 p.2.ups) q.2.ups i = updAll (updAll s.2 q.2.ups) p.2.ups i
    by_cases h1 : i ∈ p.2.ids
    · rw [updAll_other (h.2 i h1)]
      exact updAll_same h1
    · rw [updAll_other (η := updAll s.2 q.2.ups) h1]
      by_cases h2 : i ∈ q.2.ids
      · exact updAll_same h2
      · rw [updAll_other h2, updAll_other h2, updAll_other h1]
theorem appD_comm (D : Nat → Bool) (p : Oper × Foot) : ∀ (L : List (Oper × Foot)) (k : Nat) (s : SE), (∀ (j : Nat) (q : Oper × Foot), L[j]? = some q → D (k + j) = true → IndepW p q) → appD D L k (updS p s) = updS p (appD D L k s)
  | [], _, _, _ => rfl
  | q :: r, k, s, h => by
    rw [appD, appD]
    have hr := fun s => appD_comm D p r (k + 1) s (fun j q' hq hd => h (j + 1) q' (by simpa using hq) (by rw [show k + (j + 1) = k + 1 + j from by omega]; exact hd))
    split
    · rename_i hd
      rw [updS_comm (h 0 q rfl hd), hr]
    · exact hr s
theorem appD_congr (D D' : Nat → Bool) : ∀ (L : List (Oper × Foot)) (k : Nat) (s : SE), (∀ j, j < L.length → D (k + j) = D' (k + j)) → appD D L k s = appD D' L k s
  | [], _, _, _ => rfl
  | p :: r, k, s, h => by
    rw [appD, appD]
    have h0 := h 0 (by simp)
    simp only [Nat.add_zero] at h0
    rw [h0]
    exact appD_congr D D' r (k + 1) _ (fun j hj => by
      have := h (j + 1) (by simpa using hj)
      rw [show k + 1 + j = k + (j + 1) from by omega]
      exact this)
theorem appD_append (D : Nat → Bool) : ∀ (L1 L2 : List (Oper × Foot)) (k : Nat) (s : SE), appD D (L1 ++ L2) k s = appD D L2 (k + L1.length) (appD D L1 k s)
  | [], _, _, _ => by simp [appD]
  | p :: r, L2, k, s => by
    rw [List.cons_append, appD, appD_append, appD, List.length_cons, show k + 1 + r.length = k + (r.length + 1) from by omega]
theorem appD_add {D D' : Nat → Bool} {L : List (Oper × Foot)} {i : Nat} {p : Oper × Foot} {s : SE} (hi : L[i]? = some p) (h0 : D i = false) (h1 : D' i = true) (hne : ∀ j, j ≠ i → D' j = D j)
    (hind : ∀ (j : Nat) (q : Oper × Foot), i < j → L[j]? = some q → D j = true → IndepW p q) : appD D' L 0 s = updS p (appD D L 0 s) := by
  have hil : i < L.length := (List.getElem?_eq_some_iff.1 hi).1
  have hL : L = L.take i ++ p :: L.drop (i + 1) := by
    conv => lhs; rw [← List.take_append_drop i L]
    rw [List.drop_eq_getElem_cons hil]
    congr 2
    exact (List.getElem?_eq_some_iff.1 hi).2
  have ht : (L.take i).length = i := by simp; omega
  rw [hL, appD_append, appD_append, ht, Nat.zero_add, appD, appD, h0, h1, if_pos rfl, if_neg (by simp)]
  rw [appD_congr D' D (L.take i) 0 s (fun j hj => by rw [Nat.zero_add]; exact hne j (by omega)), appD_congr D' D (L.drop (i + 1)) (i + 1) _ (fun j _ => hne _ (by omega))]
  exact appD_comm D p _ _ _ (fun j q hq hd => hind (i + 1 + j) q (by omega) (by rw [List.getElem?_drop] at hq; exact hq) hd)

def confl (ops : Array Oper) (p q : Oper × Foot) : Bool :=
  !(p.1.apart ops q.1) || p.2.ids.any (fun i => q.2.rb.contains i || q.2.ids.contains i) || p.2.rb.any (fun i => q.2.ids.contains i)
def indepL (ops : Array Oper) (ms : List Nat) (j : Nat) (q : Oper × Foot) : List (Oper × Foot) → Nat → Bool
  | [], _ => true
  | p :: r, i => (decide (j ≤ i) || !confl ops p q || (ms.getD j 0).testBit i) && indepL ops ms j q r (i + 1)
def indepAll (ops : Array Oper) (ms : List Nat) (L : List (Oper × Foot)) : List (Oper × Foot) → Nat → Bool
  | [], _ => true
  | q :: r, j => indepL ops ms j q L 0 && indepAll ops ms L r (j + 1)
def indepOk (ops : Array Oper) (fs : List Foot) : Bool := indepAll ops (befs ops.toList []) (ops.toList.zip fs) (ops.toList.zip fs) 0
theorem indepL_at {ops : Array Oper} {ms : List Nat} {j : Nat} {q : Oper × Foot} : ∀ (L : List (Oper × Foot)) (i0 : Nat), indepL ops ms j q L i0 = true → ∀ (i : Nat) (p : Oper × Foot), L[i]? = some p → i0 + i < j → confl ops p q = true → (ms.getD j 0).testBit (i0 + i) = true
  | [], _, _, i, p, hp, _, _ => by simp at hp
  | p0 :: r, i0, h, i, p, hp, hlt, hc => by
    rw [indepL, Bool.and_eq_true] at h
    cases i with
    | zero =>
      simp at hp
      subst hp
      have := h.1
      simp only [Bool.or_eq_true, decide_eq_true_eq, Bool.not_eq_true'] at this
      rcases this with (h1 | h1) | h1
      · omega
      · rw [hc] at h1; cases h1
      · simpa using h1
    | succ i =>
      have := indepL_at r (i0 + 1) h.2 i p (by simpa using hp) (by omega) hc
      rw [show i0 + (i + 1) = i0 + 1 + i from by omega]
      exact this
theorem indepAll_at {ops : Array Oper} {ms : List Nat} {L : List (Oper × Foot)} : ∀ (M : List (Oper × Foot)) (j0 : Nat), indepAll ops ms L M j0 = true → ∀ (j : Nat) (q : Oper × Foot), M[j]? = some q → indepL ops ms (j0 + j) q L 0 = true
  | [], _, _, j, q, hq => by simp at hq
  | q0 :: r, j0, h, j, q, hq => by
    rw [indepAll, Bool.and_eq_true] at h
    cases j with
    | zero => simp at hq; subst hq; simpa using h.1
    | succ j =>
      have := indepAll_at r (j0 + 1) h.2 j q (by simpa using hq)
      rw [show j0 + (j + 1) = j0 + 1 + j from by omega]
      exact this
theorem indep_at {ops : Array Oper} {fs : List Foot} (h : indepOk ops fs = true) {i j : Nat} {p q : Oper × Foot} (hp : (ops.toList.zip fs)[i]? = some p) (hq : (ops.toList.zip fs)[j]? = some q) (hlt : i < j) (hc : confl ops p q = true) : ((befs ops.toList []).getD j 0).testBit i = true := by
  have h1 := indepAll_at _ 0 h j q hq
  rw [Nat.zero_add] at h1
  have := indepL_at _ 0 h1 i p hp (by omega) hc
  simpa using this

def backOk : List Oper → Nat → Bool
  | [], _ => true
  | o :: r, k => o.after.toList.all (fun e => !Region.binds .any e || decide (e.on < k)) && backOk r (k + 1)
theorem backOk_at : ∀ (L : List Oper) (k : Nat), backOk L k = true → ∀ (j : Nat) (o : Oper), L[j]? = some o → ∀ e ∈ o.after.toList, Region.binds .any e = true → e.on < k + j
  | [], _, _, j, o, ho => by simp at ho
  | o0 :: r, k, h, j, o, ho => by
    rw [backOk, Bool.and_eq_true] at h
    cases j with
    | zero =>
      simp at ho
      subst ho
      intro e he hb
      have := List.all_eq_true.1 h.1 e he
      simp only [hb, Bool.not_true, Bool.false_or, decide_eq_true_eq] at this
      omega
    | succ j =>
      intro e he hb
      have := backOk_at r (k + 1) h.2 j o (by simpa using ho) e he hb
      omega

section
variable {C : Cx} {n : Nat} {ops : Array Oper} {Q : Exit → Act → World → Prop}
theorem tr_len : ∀ (os : List Oper) (τ : Nat → AV) (η : Nat → Ent) (fs : List Foot) (τ' : Nat → AV) (η' : Nat → Ent), Tr C n ops os τ η fs τ' η' → os.length = fs.length
  | [], _, _, [], _, _, _ => rfl
  | _ :: os, _, _, _ :: fs, _, _, h => by simp [tr_len os _ _ fs _ _ h.2]
  | [], _, _, _ :: _, _, _, h => h.elim
  | _ :: _, _, _, [], _, _, h => h.elim
theorem tr_at : ∀ (os : List Oper) (k : Nat) (s : SE) (fs : List Foot) (τ' : Nat → AV) (η' : Nat → Ent), Tr C n ops os s.1 s.2 fs τ' η' →
    (appD (fun _ => true) (os.zip fs) k s = (τ', η')) ∧ ∀ (i : Nat) (p : Oper × Foot), (os.zip fs)[i]? = some p → TS C n ops p.1 (appD (fun j => decide (j < k + i)) (os.zip fs) k s).1 (appD (fun j => decide (j < k + i)) (os.zip fs) k s).2 p.2
  | [], k, s, [], τ', η', h => by
    obtain ⟨rfl, rfl⟩ := h
    exact ⟨rfl, fun i p hp => by simp at hp⟩
  | o :: os, k, s, f :: fs, τ', η', h => by
    obtain ⟨h1, h2⟩ := h
    obtain ⟨i1, i2⟩ := tr_at os (k + 1) (updS (o, f) s) fs τ' η' h2
    refine ⟨by simpa [appD] using i1, fun i p hp => ?_⟩
    cases i with
    | zero =>
      simp at hp
      subst hp
      have hid : appD (fun j => decide (j < k + 0)) ((o :: os).zip (f :: fs)) k s = s := by
        have : ∀ (L : List (Oper × Foot)) (q : Nat) (s : SE), k ≤ q → appD (fun j => decide (j < k + 0)) L q s = s := by
          intro L
          induction L with
          | nil => intro q s _; rfl
          | cons a r ih => intro q s hq; rw [appD, ih (q + 1) _ (by omega), if_neg (by simp; omega)]
        exact this _ k s (Nat.le_refl _)
      rw [hid]
      exact h1
    | succ i =>
      have := i2 i p (by simpa using hp)
      rw [List.zip_cons_cons, appD, if_pos (by simp)]
      rw [show k + 1 + i = k + (i + 1) from by omega] at this
      exact this
  | [], _, _, _ :: _, _, _, h => h.elim
  | _ :: _, _, _, [], _, _, h => h.elim

def listD (listed : Array Bool) (i : Nat) : Bool := listed.getD i false
theorem ready_iff {listed : Array Bool} (hs : listed.size = ops.size) {i : Nat} : i ∈ Region.ready .any ops listed ↔ ∃ o, ops[i]? = some o ∧ listD listed i = false ∧ ∀ e ∈ o.after.toList, Region.binds .any e = true → listD listed e.on = true := by
  unfold Region.ready listD
  rw [List.mem_filter, List.mem_range]
  constructor
  · rintro ⟨h1, h2⟩
    have ho := Array.getElem?_eq_getElem h1
    rw [ho] at h2
    have hl : listed[i]? = some listed[i] := Array.getElem?_eq_getElem (by omega)
    simp only [Option.map_some, Option.getD_some, Bool.and_eq_true, Array.getD_eq_getD_getElem?, hl, Bool.not_eq_true'] at h2
    refine ⟨_, ho, by simp [Array.getD_eq_getD_getElem?, hl, h2.1], fun e he hb => ?_⟩
    have := Array.all_eq_true_iff_forall_mem.1 h2.2 e (by simpa using he)
    simp only [hb, Bool.not_true, Bool.false_or] at this
    simpa [Array.getD_eq_getD_getElem?] using this
  · rintro ⟨o, h1, h2, h3⟩
    have hi := (Array.getElem?_eq_some_iff.1 h1).1
    have hl : listed[i]? = some listed[i] := Array.getElem?_eq_getElem (by omega)
    refine ⟨hi, ?_⟩
    simp only [Array.getD_eq_getD_getElem?, hl, Option.getD_some] at h2
    rw [h1]
    simp only [Option.map_some, Option.getD_some, Bool.and_eq_true, Array.getD_eq_getD_getElem?, hl, h2, Bool.not_false, true_and]
    refine Array.all_eq_true_iff_forall_mem.2 (fun e he => ?_)
    cases hb : Region.binds .any e
    · simp
    · have := h3 e (by simpa using he) hb
      simpa [Array.getD_eq_getD_getElem?] using this
end

section
variable {C : Cx} {n : Nat} {ops : Array Oper} {Q : Exit → Act → World → Prop}

theorem confl_tmp {p q : Oper × Foot} {t : Nat} (hp : p.1.dst = some t) (hq : t ∈ q.1.looksAt ops ∨ q.1.dst = some t) : confl ops p q = true := by
  unfold confl
  have : p.1.apart ops q.1 = false := by
    cases h : p.1.apart ops q.1
    · rfl
    · obtain ⟨a, b, _⟩ := Oper.apart_spec h
      rcases hq with hq | hq
      · exact absurd hq (a t hp)
      · exact absurd hq (b t hp)
  simp [this]
theorem confl_tmp' {p q : Oper × Foot} {t : Nat} (hq : q.1.dst = some t) (hp : t ∈ p.1.looksAt ops) : confl ops p q = true := by
  unfold confl
  have : p.1.apart ops q.1 = false := by
    cases h : p.1.apart ops q.1
    · rfl
    · obtain ⟨_, _, c⟩ := Oper.apart_spec h
      exact absurd hp (c t hq)
  simp [this]
theorem confl_ent {p q : Oper × Foot} {i : Nat} (hp : i ∈ p.2.ids) (hq : i ∈ q.2.rb ∨ i ∈ q.2.ids) : confl ops p q = true := by
  have : p.2.ids.any (fun i => q.2.rb.contains i || q.2.ids.contains i) = true := List.any_eq_true.2 ⟨i, hp, by simpa using hq⟩
  unfold confl
  rw [this]
  simp
theorem confl_ent' {p q : Oper × Foot} {i : Nat} (hp : i ∈ p.2.rb) (hq : i ∈ q.2.ids) : confl ops p q = true := by
  have : p.2.rb.any (fun i => q.2.ids.contains i) = true := List.any_eq_true.2 ⟨i, hp, by simpa using hq⟩
  unfold confl
  rw [this]
  simp

theorem wpAny_drawn {w0 : World} {X : XX} {s0 : SE} {τ' : Nat → AV} {η' : Nat → Ent} {fs : List Foot} (htr : Tr C n ops ops.toList s0.1 s0.2 fs τ' η') (hind : indepOk ops fs = true) (hback : backOk ops.toList 0 = true)
    (hq : ∀ m' a' w', Rep C n w0 X τ' η' m' a' w' → Q .normal a' w') : ∀ (fuel : Nat) (listed : Array Bool) (m : MM) (a : Act) (w : World), listed.size = ops.size → Closed ops (listD listed) → ops.size ≤ listed.toList.countP id + fuel →
      Rep C n w0 X (appD (listD listed) (ops.toList.zip fs) 0 s0).1 (appD (listD listed) (ops.toList.zip fs) 0 s0).2 m a w → wpAny C.P .any ops Q fuel listed a w := by
  obtain ⟨hall, hat⟩ := tr_at ops.toList 0 s0 fs τ' η' htr
  have hlen := tr_len _ _ _ _ _ _ htr
  simp at hlen
  have hzl : (ops.toList.zip fs).length = ops.size := by simp; omega
  have hready : ∀ listed : Array Bool, listed.size = ops.size → Region.ready .any ops listed = [] → ∀ i, i < ops.size → listD listed i = true := by
    intro listed hs hr i
    induction i using Nat.strongRecOn with
    | _ i ih =>
      intro hi
      cases hd : listD listed i
      · exfalso
        have ho := Array.getElem?_eq_getElem hi
        have : i ∈ Region.ready .any ops listed := (ready_iff hs).2 ⟨_, ho, hd, fun e he hb => by
          have := backOk_at _ 0 hback i ops[i] (by simp) e he hb
          exact ih e.on (by omega) (by omega)⟩
        rw [hr] at this
        cases this
      · rfl
  have hdone : ∀ (listed : Array Bool) (m : MM) (a : Act) (w : World), listed.size = ops.size → Region.ready .any ops listed = [] →
      Rep C n w0 X (appD (listD listed) (ops.toList.zip fs) 0 s0).1 (appD (listD listed) (ops.toList.zip fs) 0 s0).2 m a w → Q .normal a w := by
    intro listed m a w hs hr hrep
    rw [appD_congr (listD listed) (fun _ => true) _ 0 s0 (fun j hj => by rw [Nat.zero_add]; exact hready listed hs hr j (by omega)), hall] at hrep
    exact hq m a w hrep
  intro fuel
  induction fuel with
  | zero =>
    intro listed m a w hs hc hf hrep
    have hr : Region.ready .any ops listed = [] := by
      cases h : Region.ready .any ops listed with
      | nil => rfl
      | cons i r =>
        exfalso
        obtain ⟨o, h1, h2, _⟩ := (ready_iff hs).1 (by rw [h]; simp : i ∈ Region.ready .any ops listed)
        have hi := (Array.getElem?_eq_some_iff.1 h1).1
        have hcnt : listed.toList.countP id = listed.toList.length := by
          have := List.countP_le_length (p := id) (l := listed.toList)
          rw [Array.length_toList] at this ⊢
          omega
        have := List.countP_eq_length.1 hcnt listed[i] (by simp)
        simp only [id] at this
        simp only [listD, Array.getD_eq_getD_getElem?, Array.getElem?_eq_getElem (show i < listed.size from by omega), Option.getD_some] at h2
        rw [this] at h2
        cases h2
    exact ⟨hr, hdone listed m a w hs hr hrep⟩
  | succ fuel ih =>
    intro listed m a w hs hc hf hrep
    refine ⟨fun hr => hdone listed m a w hs hr hrep, fun i hi => ?_⟩
    obtain ⟨o, h1, h2, h3⟩ := (ready_iff hs).1 hi
    have hil := (Array.getElem?_eq_some_iff.1 h1).1
    obtain ⟨f, hfi⟩ : ∃ f, fs[i]? = some f := ⟨fs[i]'(by omega), List.getElem?_eq_getElem _⟩
    have hp : (ops.toList.zip fs)[i]? = some (o, f) := by
      rw [List.getElem?_zip_eq_some]
      exact ⟨by simpa using h1, hfi⟩
    have hts := hat i (o, f) hp
    rw [Nat.zero_add] at hts
    have hgood := befs_good hc ops.toList [] (fun j o' hj => by simpa using hj) (fun j k hjk => by simp at hjk)
    have hno : ∀ (j : Nat) (q : Oper × Foot), i < j → (ops.toList.zip fs)[j]? = some q → confl ops (o, f) q = true → listD listed j = false := by
      intro j q hij hqj hcf
      cases hd : listD listed j
      · rfl
      · have := hgood j i (indep_at hind hp hqj hij hcf) hd
        rw [h2] at this
        cases this
    have hyes : ∀ (j : Nat) (q : Oper × Foot), j < i → (ops.toList.zip fs)[j]? = some q → confl ops q (o, f) = true → listD listed j = true := by
      intro j q hij hqj hcf
      have hc' : Closed ops (fun k => decide (k = i) || listD listed k) := by
        intro k ok hk hd e he hb
        simp only [Bool.or_eq_true, decide_eq_true_eq] at hd ⊢
        rcases hd with rfl | hd
        · rw [h1] at hk
          injection hk with hk
          subst hk
          exact .inr (h3 e he hb)
        · exact .inr (hc k ok hk hd e he hb)
      have hg' := befs_good hc' ops.toList [] (fun j o' hj => by simpa using hj) (fun j k hjk => by simp at hjk)
      have := hg' i j (indep_at hind hqj hp hij hcf) (by simp)
      simp only [Bool.or_eq_true, decide_eq_true_eq] at this
      exact this.resolve_left (by omega)
    have hagT : ∀ t ∈ o.looksAt ops, (appD (listD listed) (ops.toList.zip fs) 0 s0).1 t = (appD (fun j => decide (j < i)) (ops.toList.zip fs) 0 s0).1 t := by
      intro t ht
      refine appD_tmp _ _ t _ 0 _ _ rfl (fun j q hq hd => ?_)
      rw [Nat.zero_add]
      rcases Nat.lt_trichotomy j i with hj | hj | hj
      · rw [hyes j q hj hq (confl_tmp hd (.inl ht))]; simp [hj]
      · subst hj; rw [h2]; simp
      · rw [hno j q hj hq (confl_tmp' hd ht)]; simp; omega
    have hagE : ∀ k, k ∈ f.rb ∨ k ∈ f.ids → (appD (listD listed) (ops.toList.zip fs) 0 s0).2 k = (appD (fun j => decide (j < i)) (ops.toList.zip fs) 0 s0).2 k := by
      intro k hk
      refine appD_ent _ _ k _ 0 _ _ rfl (fun j q hq hd => ?_)
      rw [Nat.zero_add]
      rcases Nat.lt_trichotomy j i with hj | hj | hj
      · rw [hyes j q hj hq (confl_ent hd hk)]; simp [hj]
      · subst hj; rw [h2]; simp
      · have : confl ops (o, f) q = true := by
          rcases hk with hk | hk
          · exact confl_ent' hk hd
          · exact confl_ent hk (.inr hd)
        rw [hno j q hj hq this]; simp; omega
    refine wpOp_of h1 (fun a' w' hK => ?_) (hts _ _ hagT hagE w0 X m a w hrep)
    obtain ⟨m', hrep'⟩ := hK
    have hset : ∀ k, listD (listed.setIfInBounds i true) k = if k = i then true else listD listed k := by
      intro k
      unfold listD
      rw [Array.getD_eq_getD_getElem?, Array.getD_eq_getD_getElem?]
      by_cases e : k = i
      · subst e; rw [Array.getElem?_setIfInBounds_self_of_lt (by omega)]; simp
      · rw [Array.getElem?_setIfInBounds_ne (fun h => e h.symm), if_neg e]
    refine ih (listed.setIfInBounds i true) m' a' w' (by simp [hs]) (fun j oj hj hd e he hb => ?_) ?_ ?_
    · rw [hset] at hd ⊢
      split
      · rfl
      · split at hd
        · rename_i hji
          subst hji
          rw [h1] at hj
          injection hj with hj
          subst hj
          exact h3 e he hb
        · exact hc j oj hj hd e he hb
    · have hlt : i < listed.toList.length := by simp; omega
      have hfalse : listed.toList[i] = false := by
        simp only [listD, Array.getD_eq_getD_getElem?, Array.getElem?_eq_getElem (show i < listed.size from by omega), Option.getD_some] at h2
        simpa using h2
      rw [Array.toList_setIfInBounds, List.countP_set hlt]
      simp [hfalse]
      simp at hf
      omega
    · rw [appD_add (D := listD listed) (D' := listD (listed.setIfInBounds i true)) hp h2 (by rw [hset]; simp) (fun j hj => by rw [hset, if_neg hj]) (fun j q hij hqj hd => ?_)]
      · exact hrep'
      · refine ⟨fun d hd1 hd2 => ?_, fun k hk1 hk2 => ?_⟩
        · have := hno j q hij hqj (confl_tmp hd1 (.inr hd2))
          rw [hd] at this
          cases this
        · have := hno j q hij hqj (confl_ent hk1 (.inr hk2))
          rw [hd] at this
          cases this

/-- a region, by its trace in the order of the text -/
theorem wp_region_tr {id : Nat} {draw : Bool} {w0 : World} {X : XX} {τ τ' : Nat → AV} {η η' : Nat → Ent} {fs : List Foot} {m : MM} {a : Act} {w : World} (htr : Tr C n ops ops.toList τ η fs τ' η')
    (hdraw : draw = true → C.P.follows .mixedOrders = true ∧ indepOk ops fs = true ∧ backOk ops.toList 0 = true) (hr : Rep C n w0 X τ η m a w) (hq : ∀ m' a' w', Rep C n w0 X τ' η' m' a' w' → Q .normal a' w') : (Code.region id ops draw).wp C.P Q a w := by
  cases draw with
  | false =>
    refine wp_region ?_
    have := tr_seq (Q := Q) ops.toList 0 τ η fs τ' η' htr (fun j o hj => by simpa using hj) w0 X m a w hr hq
    simpa using this
  | true =>
    obtain ⟨h1, h2, h3⟩ := hdraw rfl
    refine wp_region_any h1 (wpAny_drawn (s0 := (τ, η)) htr h2 h3 hq ops.size (Array.replicate ops.size false) m a _ (by simp) (fun j o hj hd => ?_) (by omega) ?_)
    · exfalso
      simp only [listD, Array.getD_eq_getD_getElem?] at hd
      rcases Nat.lt_or_ge j ops.size with h | h
      · simp [h] at hd
      · simp [Nat.not_lt.2 h] at hd
    · have e : appD (listD (Array.replicate ops.size false)) (ops.toList.zip fs) 0 (τ, η) = (τ, η) := by
        have : ∀ (L : List (Oper × Foot)) (q : Nat) (s : SE), appD (listD (Array.replicate ops.size false)) L q s = s := by
          intro L
          induction L with
          | nil => intro q s; rfl
          | cons x r ih =>
            intro q s
            rw [appD, ih, if_neg]
            simp only [listD, Array.getD_eq_getD_getElem?]
            rcases Nat.lt_or_ge q ops.size with h | h
            · simp [h]
            · simp [Nat.not_lt.2 h]
        exact this _ _ _
      rw [e]
      exact hr.drew _
end

abbrev tmF (l : List AV) : Nat → AV := fun t => l.getD t .dead
abbrev hpF (l : List Ent) : Nat → Ent := fun i => l.getD i ⟨0, none⟩

def getK {α : Type} : List α → Nat → (α → Prop) → Prop
  | [], _, _ => False
  | x :: _, 0, k => k x
  | _ :: r, n + 1, k => getK r n k
def setK {α : Type} : List α → Nat → α → (List α → Prop) → Prop
  | [], _, _, _ => False
  | _ :: r, 0, v, k => k (v :: r)
  | x :: r, n + 1, v, k => setK r n v (fun q => k (x :: q))
def forceK {α : Type} : List α → (List α → Prop) → Prop
  | [], k => k []
  | x :: r, k => forceK r (fun q => k (x :: q))
def ifK : Bool → Prop → Prop
  | true, p => p
  | false, _ => False
def someK {α : Type} : Option α → (α → Prop) → Prop
  | some x, k => k x
  | none, _ => False
theorem getK_ok {α : Type} : ∀ {l : List α} {n : Nat} {k : α → Prop}, getK l n k → ∃ x, l[n]? = some x ∧ k x
  | [], _, _, h => h.elim
  | x :: _, 0, _, h => ⟨x, rfl, h⟩
  | _ :: r, n + 1, k, h => by simpa using getK_ok (l := r) (n := n) (k := k) h
theorem setK_ok {α : Type} : ∀ {l : List α} {n : Nat} {v : α} {k : List α → Prop}, setK l n v k → n < l.length ∧ k (l.set n v)
  | [], _, _, _, h => h.elim
  | x :: _, 0, _, _, h => ⟨by simp, h⟩
  | x :: r, n + 1, v, k, h => by
    obtain ⟨h1, h2⟩ := setK_ok (l := r) (n := n) (v := v) h
    exact ⟨by simpa using h1, h2⟩
theorem forceK_ok {α : Type} : ∀ {l : List α} {k : List α → Prop}, forceK l k → k l
  | [], _, h => h
  | x :: r, k, h => forceK_ok (l := r) (k := fun q => k (x :: q)) h
theorem ifK_ok {b : Bool} {p : Prop} (h : ifK b p) : b = true ∧ p := by
  cases b
  · exact h.elim
  · exact ⟨rfl, h⟩
theorem someK_ok {α : Type} {o : Option α} {k : α → Prop} (h : someK o k) : ∃ x, o = some x ∧ k x := by
  cases o
  · exact h.elim
  · exact ⟨_, rfl, h⟩

def evK (tm : List AV) : Operand → (AV → Prop) → Prop
  | .tmp t, k => getK tm t k
  | .const v, k => k (.c v)
  | .global g, k => k (.c (.pointer (some ⟨g, 0, none⟩)))
  | .func f, k => k (.clo (.func f) [] [])
theorem evK_ok {tm : List AV} {x : Operand} {k : AV → Prop} (h : evK tm x k) : k (evA (tmF tm) x) := by
  rcases x with t | v | g | f
  · obtain ⟨y, h1, h2⟩ := getK_ok h
    show k (tm.getD t .dead)
    rw [List.getD_eq_getElem?_getD, h1]
    exact h2
  · exact h
  · exact h
  · exact h
def tyK (T : List (Option TI)) (t : TypeId) (k : TI → Prop) : Prop := getK T t (fun o => someK o k)
theorem tyK_ok {C : Cx} {t : TypeId} {k : TI → Prop} (h : tyK C.T t k) : ∃ ti, TyOk C.P t ti ∧ k ti := by
  obtain ⟨o, h1, h2⟩ := getK_ok h
  obtain ⟨ti, rfl, h3⟩ := someK_ok h2
  exact ⟨ti, C.tyOk t ti h1, h3⟩

/-- the block of a handle -/
def blkK (hp : List Ent) (i ver : Nat) (k : Blk → Prop) : Prop := getK hp i (fun e => ifK (e.ver.beq ver) (someK e.blk k))
theorem blkK_ok {hp : List Ent} {i ver : Nat} {k : Blk → Prop} (h : blkK hp i ver k) : ∃ B, hpF hp i = ⟨ver, some B⟩ ∧ k B := by
  obtain ⟨e, h1, h2⟩ := getK_ok h
  obtain ⟨h3, h4⟩ := ifK_ok h2
  obtain ⟨B, h5, h6⟩ := someK_ok h4
  refine ⟨B, ?_, h6⟩
  show hp.getD i _ = _
  rw [List.getD_eq_getElem?_getD, h1]
  have := Nat.eq_of_beq_eq_true h3
  subst this
  cases e
  simp only at h5
  rw [h5]
  rfl
/-- an element of a block: a variable has one; of a row it is asked for -/
def elK (B : Blk) (kk : Nat) (k : List AV → Prop) : Prop :=
  match B.box, B.els with
  | true, [e] => ifK (kk.beq 0) (k e)
  | true, _ => False
  | false, els => True → ∃ e, els[kk]? = some e ∧ k e
theorem elK_ok {B : Blk} {kk : Nat} {k : List AV → Prop} (h : elK B kk k) : ∃ e, B.els[kk]? = some e ∧ (B.box = true → B.els = [e] ∧ kk = 0) ∧ k e := by
  obtain ⟨ty, sz, box, els⟩ := B
  cases box with
  | true =>
    match els, h with
    | [e], h =>
      obtain ⟨h3, h4⟩ := ifK_ok h
      have := Nat.eq_of_beq_eq_true h3
      subst this
      exact ⟨e, rfl, fun _ => ⟨rfl, rfl⟩, h4⟩
    | [], h => exact h.elim
    | _ :: _ :: _, h => exact h.elim
  | false =>
    obtain ⟨e, h2, h3⟩ := (show True → ∃ e, els[kk]? = some e ∧ k e from h) trivial
    exact ⟨e, h2, fun q => (by cases q), h3⟩
def cutK (ti : TI) (e : List AV) (j : Nat) (k : AV → Prop) : Prop :=
  match ti.kind.agg with
  | true => ifK (Nat.ble (j + ti.sz) e.length) (forceK ((e.drop j).take ti.sz) (fun cs => k (.agg cs)))
  | false => ifK (ti.sz.beq 1) (getK e j k)
theorem cutK_ok {ti : TI} {e : List AV} {j : Nat} {k : AV → Prop} (h : cutK ti e j k) : j + ti.sz ≤ e.length ∧ (ti.kind.agg = false → ti.sz = 1) ∧ k (cut ti e j) := by
  unfold cutK at h
  split at h
  · rename_i ha
    obtain ⟨h1, h2⟩ := ifK_ok h
    refine ⟨Nat.le_of_ble_eq_true h1, fun q => (by rw [ha] at q; cases q), ?_⟩
    have := forceK_ok h2
    simpa [cut, ha] using this
  · rename_i ha
    obtain ⟨h1, h2⟩ := ifK_ok h
    have h1' := Nat.eq_of_beq_eq_true h1
    obtain ⟨x, h3, h4⟩ := getK_ok h2
    have := (List.getElem?_eq_some_iff.1 h3).1
    exact ⟨by omega, fun _ => h1', by simpa [cut, ha, List.getD_eq_getElem?_getD, h3] using h4⟩
def cellsK (a : AV) (k : List AV → Prop) : Prop := forceK (cellsA a) (fun cs => ifK (onesA cs) (k cs))
theorem cellsK_ok {a : AV} {k : List AV → Prop} (h : cellsK a k) : onesA (cellsA a) = true ∧ k (cellsA a) := ifK_ok (forceK_ok h)

/-- what an operation does, as the evaluator hands it on -/
abbrev Kt := AV → List (Nat × Ent) → List Nat → List Prop → Prop
def binK (op : BinOp) (u v : Value) (k : Kt) : Prop :=
  match op, u, v with
  | .add, .string p, .string q => k (.c (.string (p ++ q))) [] [] [p.size + q.size ≤ 9223372036854775807]
  | .quo, .int a p, .int _ q => k (.c (.int a (a.wrap (p.tdiv q)))) [] [] [v = .int a q, q ≠ 0]
  | .rem, .int a p, .int _ q => k (.c (.int a (p.tmod q))) [] [] [v = .int a q, q ≠ 0]
  | op, u, v => someK (binV op u v) (fun r => match r with
    | .int a z => k (.c (.int a z)) [] [] []
    | .bool b => k (.c (.bool b)) [] [] []
    | _ => False)
def nilK (op : BinOp) (a : AV) (k : Kt) : Prop :=
  match op, a with
  | .eql, .c .nilIface => k (.c (.bool true)) [] [] []
  | .neq, .c .nilIface => k (.c (.bool false)) [] [] []
  | .eql, .ifc _ _ => k (.c (.bool false)) [] [] []
  | .neq, .ifc _ _ => k (.c (.bool true)) [] [] []
  | _, _ => False
/-- a bound of a slice -/
def bndK (tm : List AV) (dflt : Nat) : Option Operand → (Nat → List Prop → Prop) → Prop
  | none, k => k dflt []
  | some x, k => evK tm x (fun a => match a with
    | .c (.int _ z) => k z.toNat [0 ≤ z]
    | _ => False)
def partsK (tm : List AV) : List (Nat × Operand) → (List (Nat × AV) → Prop) → Prop
  | [], k => k []
  | (i, x) :: r, k => evK tm x (fun a => partsK tm r (fun q => k ((i, a) :: q)))
def layK (place : Nat → Option (Nat × Nat)) : List AV → List (Nat × AV) → (List AV → Prop) → Prop
  | e, [], k => k e
  | e, (i, x) :: r, k => someK (place i) (fun p => cellsK x (fun cs => ifK (cs.length.beq p.2 && Nat.ble (p.1 + p.2) e.length) (forceK (lay e p.1 cs) (fun e' => layK place e' r k))))
def chunkK : Nat → Nat → List AV → (List (List AV) → Prop) → Prop
  | 0, _, l, k => match l with
    | [] => k []
    | _ => False
  | n + 1, sz, l, k => forceK (l.take sz) (fun c => ifK (c.length.beq sz) (forceK (l.drop sz) (fun r => chunkK n sz r (fun q => k (c :: q)))))
def srcK (hp : List Ent) (sz : Nat) (a : AV) (k : List (List AV) → List Nat → List Prop → Prop) : Prop :=
  match a with
  | .sl s l => ifK (s.beq sz) (k l [] [])
  | .own i ver 0 len => blkK hp i ver (fun B => ifK (B.sz.beq sz) (k B.els [i] [B.els.length = len]))
  | .own i ver (k0 + 1) len => blkK hp i ver (fun B => ifK (B.sz.beq sz) (k ((B.els.drop (k0 + 1)).take len) [i] [k0 + 1 + len ≤ B.els.length]))
  | .c (.slice none 0 _) => k [] [] []
  | _ => False

def fieldK (T : List (Option TI)) (s f : Nat) (k : Nat → TI → Prop) : Prop :=
  tyK T s (fun ts => match ts.kind with
    | .struct fs => getK fs f (fun p => tyK T p.2 (fun tf => k p.1 tf))
    | _ => False)

def lenK (C : Cx) (tm : List AV) (hp : List Ent) (x : Operand) (t : TypeId) (k : Kt) : Prop :=
  tyK C.T t (fun ti => evK tm x (fun a => match ti.kind, a with
    | .slice _, .sl _ l => k (.c (.int .i64 l.length)) [] [] []
    | .slice _, .own i ver _ len => blkK hp i ver (fun _ => k (.c (.int .i64 len)) [] [i] [])
    | .slice _, .c (.slice _ q _) => k (.c (.int .i64 q)) [] [] []
    | .str, .c (.string s) => k (.c (.int .i64 s.size)) [] [] []
    | _, _ => False))
def appendK (C : Cx) (tm : List AV) (hp : List Ent) (o : Oper) (x y : Operand) (t t' : TypeId) (k : Kt) : Prop :=
  ifK (t.beq t') (tyK C.T t (fun ti => match ti.kind with
    | .slice e => tyK C.T e (fun te => ifK (!te.sz.beq 0) (evK tm x (fun a => evK tm y (fun b => match a with
      | .own i ver 0 len => blkK hp i ver (fun B => ifK (B.sz.beq te.sz && B.ty.beq e) (srcK hp B.sz b (fun new rb ps =>
          k (.own i (ver + 1) 0 (len + new.length)) [(i, ⟨ver + 1, some ⟨e, B.sz, false, B.els ++ new⟩⟩)] rb (ps ++ [B.els.length = len, (len + new.length) * te.bytes ≤ 140737488355328, len + new.length ≤ 9223372036854775807]))))
      | .c (.slice none 0 0) => someK o.dst (fun d => getK hp d (fun en => srcK hp te.sz b (fun new rb ps =>
          k (.own d (en.ver + 1) 0 new.length) [(d, ⟨en.ver + 1, some ⟨e, te.sz, false, new⟩⟩)] rb (ps ++ [new.length * te.bytes ≤ 140737488355328, new.length ≤ 9223372036854775807]))))
      | _ => False))))
    | _ => False))
def callK (C : Cx) (tm : List AV) (hp : List Ent) (o : Oper) (c : Call) (any : Prop) (k : Kt) : Prop :=
  match c.callee with
  | .builtin .len => match c.args.toList, c.argTypes.toList with
    | [x], [t] => lenK C tm hp x t k
    | _, _ => False
  | .builtin .append => match c.args.toList, c.argTypes.toList with
    | [x, y], [t, t'] => appendK C tm hp o x y t t' k
    | _, _ => False
  | _ => any
/-- one operation -/
def opK (C : Cx) (tm : List AV) (hp : List Ent) (o : Oper) (any : Prop) (k : Kt) : Prop :=
  match o.op with
  | .move x => evK tm x (fun a => k a [] [] [])
  | .assign x => evK tm x (fun a => k a [] [] [])
  | .alloc t => tyK C.T t (fun ti => someK o.dst (fun d => getK hp d (fun e => cellsK (.c ti.zero) (fun cs => k (.ptr d (e.ver + 1) 0 0) [(d, ⟨e.ver + 1, some ⟨t, cs.length, true, [cs]⟩⟩)] [] []))))
  | .box t x => evK tm x (fun a => someK o.dst (fun d => getK hp d (fun e => cellsK a (fun cs => k (.ptr d (e.ver + 1) 0 0) [(d, ⟨e.ver + 1, some ⟨t, cs.length, true, [cs]⟩⟩)] [] []))))
  | .load t x => tyK C.T t (fun ti => evK tm x (fun a => match a with
    | .ptr i ver kk j => blkK hp i ver (fun B => ifK (Nat.ble (j + ti.sz) B.sz) (elK B kk (fun e => cutK ti e j (fun r => k r [] [i] []))))
    | .pim e j => cutK ti e j (fun r => k r [] [] [])
    | _ => False))
  | .store t x y => match o.dst with
    | some _ => False
    | none => tyK C.T t (fun ti => evK tm x (fun a => evK tm y (fun b => match a with
      | .ptr i ver kk j => blkK hp i ver (fun B => cellsK b (fun cs => ifK (cs.length.beq ti.sz && Nat.ble (j + ti.sz) B.sz) (elK B kk (fun e => forceK (lay e j cs) (fun e' =>
          match B with
          | ⟨ty, sz, true, _⟩ => k .dead [(i, ⟨ver, some ⟨ty, sz, true, [e']⟩⟩)] [] []
          | ⟨ty, sz, false, els⟩ => k .dead [(i, ⟨ver, some ⟨ty, sz, false, els.set kk e'⟩⟩)] [] [])))))
      | _ => False)))
  | .nilCheck x => evK tm x (fun a => match a with
    | .ptr i ver kk j => blkK hp i ver (fun _ => k (.ptr i ver kk j) [] [i] [])
    | .pim e j => k (.pim e j) [] [] []
    | _ => False)
  | .binOp op xt x y _ => evK tm x (fun a => match y with
    | .const .nilIface => tyK C.T xt (fun ti => match ti.kind with
      | .iface => nilK op a k
      | _ => False)
    | _ => evK tm y (fun b => match a, b with
      | .c (.bool p), .c (.bool q) => tyK C.T xt (fun ti => match ti.kind with
        | .bool => match op with
          | .eql => k (.c (.bool (p == q))) [] [] []
          | .neq => k (.c (.bool (!(p == q)))) [] [] []
          | _ => False
        | _ => False)
      | .c u, .c v => binK op u v k
      | _, _ => False))
  | .unOp .not _ x => evK tm x (fun a => match a with
    | .c (.bool b) => k (.c (.bool (!b))) [] [] []
    | _ => False)
  | .unOp .neg _ x => evK tm x (fun a => match a with
    | .c (.int kd z) => k (.c (.int kd (kd.wrap (0 - z)))) [] [] []
    | _ => False)
  | .pick c x y => evK tm c (fun q => match q with
    | .c (.bool b) => True → (b = true → evK tm x (fun a => k a [] [] [])) ∧ (b = false → evK tm y (fun a => k a [] [] []))
    | _ => False)
  | .convert src dst x => tyK C.T src (fun _ => tyK C.T dst (fun td => evK tm x (fun a => match a, td.kind with
    | .c (.int _ z), .int kd => k (.c (.int kd (kd.wrap z))) [] [] []
    | .c (.string s), .str => k (.c (.string s)) [] [] []
    | _, _ => False)))
  | .makeInterface xt x => tyK C.T xt (fun ti => match ti.kind with
    | .iface => False
    | .other => False
    | _ => evK tm x (fun a => k (.ifc xt a) [] [] []))
  | .extract x j => evK tm x (fun a => match a with
    | .tup vs => getK vs j (fun y => k y [] [] [])
    | _ => False)
  | .fieldAddr s x f => fieldK C.T s f (fun off tf => ifK (!tf.sz.beq 0) (evK tm x (fun a => match a with
    | .ptr i ver kk j => blkK hp i ver (fun _ => k (.ptr i ver kk (j + off)) [] [i] [])
    | .pim e j => k (.pim e (j + off)) [] [] []
    | _ => False)))
  | .field s x f => fieldK C.T s f (fun off tf => evK tm x (fun a => match a with
    | .agg cs => cutK tf cs off (fun r => k r [] [] [])
    | _ => False))
  | .indexAddr t x y => tyK C.T t (fun ti => match ti.kind with
    | .slice e => tyK C.T e (fun te => evK tm x (fun a => evK tm y (fun b => match a, b with
      | .sl sz l, .c (.int _ z) => ifK (te.sz.beq sz) (True → ∃ el, l[z.toNat]? = some el ∧ k (.pim el 0) [] [] [0 ≤ z])
      | .own i ver k0 len, .c (.int _ z) => blkK hp i ver (fun B => ifK (te.sz.beq B.sz) (k (.ptr i ver (k0 + z.toNat) 0) [] [i] [0 ≤ z, z < len]))
      | _, _ => False)))
    | _ => False)
  | .index t x y => tyK C.T t (fun ti => match ti.kind with
    | .str => evK tm x (fun a => evK tm y (fun b => match a, b with
      | .c (.string s), .c (.int _ z) => k (.c (.int .u8 (s.data.getD z.toNat 0).toNat)) [] [] [0 ≤ z, z < s.size]
      | _, _ => False))
    | _ => False)
  | .slice _ _ _ _ (some _) => False
  | .slice t x lo hi none => tyK C.T t (fun ti => evK tm x (fun a => match ti.kind, a with
    | .str, .c (.string s) => bndK tm 0 lo (fun l p1 => bndK tm s.size hi (fun r p2 => k (.c (.string (s.extract l r))) [] [] (p1 ++ p2 ++ [l ≤ r, r ≤ s.size])))
    | .slice e, .sl sz ls => tyK C.T e (fun te => ifK (te.sz.beq sz) (bndK tm 0 lo (fun l p1 => bndK tm ls.length hi (fun r p2 => k (.sl sz ((ls.take r).drop l)) [] [] (p1 ++ p2 ++ [l ≤ r, r ≤ ls.length])))))
    | .slice e, .own i ver k0 len => tyK C.T e (fun te => blkK hp i ver (fun B => ifK (te.sz.beq B.sz) (bndK tm 0 lo (fun l p1 => bndK tm len hi (fun r p2 => k (.own i ver (k0 + l) (r - l)) [] [i] (p1 ++ p2 ++ [l ≤ r, r ≤ len]))))))
    | _, _ => False))
  | .call c => callK C tm hp o c any k
  | .build t ps => tyK C.T t (fun ti => match ti.kind with
    | .struct fs => ifK (onesA (cellsA (.c ti.zero)) && fs.all (fun p => match C.T[p.2]? with | some (some _) => true | _ => false)) (partsK tm ps.toList (fun qs => forceK (ti.zero.cells.toList.map .c) (fun z => layK (fun i => (fs[i]?).map (fun p => (p.1, match C.T[p.2]? with | some (some tf) => tf.sz | _ => 0))) z qs (fun e => k (.agg e) [] [] []))))
    | _ => False)
  | .buildSlice t len ps => tyK C.T t (fun ti => match ti.kind with
    | .slice e => tyK C.T e (fun te => ifK (!te.sz.beq 0 && Nat.ble (len * te.sz) 16777216 && onesA (cellsA (.c te.zero))) (someK o.dst (fun d => getK hp d (fun en => partsK tm ps.toList (fun qs =>
        forceK ((List.range (len * te.sz)).map (fun i => .c (te.zero.cells.getD (i % te.sz) undef))) (fun z => layK (fun i => some (i * te.sz, te.sz)) z qs (fun fl => chunkK len te.sz fl (fun els =>
          k (.own d (en.ver + 1) 0 len) [(d, ⟨en.ver + 1, some ⟨e, te.sz, false, els⟩⟩)] [] []))))))))
    | _ => False)
  | _ => any

def AllP : List Prop → Prop
  | [] => True
  | [p] => p
  | p :: r => p ∧ AllP r
theorem AllP_cons {p : Prop} {r : List Prop} : AllP (p :: r) ↔ p ∧ AllP r := by
  cases r with
  | nil => simp [AllP]
  | cons q r => rfl
theorem AllP_append {a b : List Prop} : AllP (a ++ b) ↔ AllP a ∧ AllP b := by
  induction a with
  | nil => simp [AllP]
  | cons p r ih => rw [List.cons_append, AllP_cons, AllP_cons, ih, and_assoc]

/-- what an operation does, whatever the state holds beside its operands and blocks -/
def LF (C : Cx) (n : Nat) (o : Oper) (τ : Nat → AV) (η : Nat → Ent) (f : Foot) : Prop :=
  ∀ τ' η', (∀ y ∈ o.op.operands, evA τ' y = evA τ y) → (∀ i, i ∈ f.rb ∨ i ∈ f.ids → η' i = η i) → Step C n o τ' η' (putA τ' o.dst f.x) (updAll η' f.ups)

section
variable {C : Cx} {n : Nat} {tm : List AV} {hp : List Ent} {o : Oper}
theorem lf_pure {τ : Nat → AV} {η : Nat → Ent} {x : AV} {rb : List Nat} (hd : InB n o.dst) (h : ∀ τ' η', (∀ y ∈ o.op.operands, evA τ' y = evA τ y) → (∀ i, i ∈ rb → η' i = η i) → Pure C n o τ' η' x) : LF C n o τ η ⟨x, [], rb⟩ :=
  fun τ' η' h1 h2 => step_pure hd (h τ' η' h1 (fun i hi => h2 i (.inl hi)))
theorem hp_get {d : Nat} {e : Ent} (h : hp[d]? = some e) : hpF hp d = e := by
  show hp.getD d _ = e
  rw [List.getD_eq_getElem?_getD, h]
  rfl

/-- what is to be shown of every operation -/
def Goal (C : Cx) (n : Nat) (tm : List AV) (hp : List Ent) (o : Oper) (k : Kt) : Prop := ∃ x ups rb ps, k x ups rb ps ∧ (AllP ps → LF C n o (tmF tm) (hpF hp) ⟨x, ups, rb⟩)

theorem ok_load {t : TypeId} {x : Operand} {k : Kt} (hd : InB n o.dst) (ho : o.op = .load t x) (h : tyK C.T t (fun ti => evK tm x (fun a => match a with
    | .ptr i ver kk j => blkK hp i ver (fun B => ifK (Nat.ble (j + ti.sz) B.sz) (elK B kk (fun e => cutK ti e j (fun r => k r [] [i] []))))
    | .pim e j => cutK ti e j (fun r => k r [] [] [])
    | _ => False))) : Goal C n tm hp o k := by
  obtain ⟨ti, ht, h⟩ := tyK_ok h
  have h := evK_ok h
  split at h
  · rename_i i ver kk j he
    obtain ⟨B, hB, h⟩ := blkK_ok h
    obtain ⟨h1, h⟩ := ifK_ok h
    obtain ⟨e, hee, _, h⟩ := elK_ok h
    obtain ⟨c1, c2, h⟩ := cutK_ok h
    exact ⟨_, _, _, _, h, fun _ => lf_pure hd (fun τ' η' g1 g2 => p_load_own ho (by rw [g1 x (by simp [ho, Op.operands]), he]) (by rw [g2 i (by simp), hB]) hee ht c2 (Nat.le_of_ble_eq_true h1))⟩
  · rename_i e j he
    obtain ⟨c1, c2, h⟩ := cutK_ok h
    exact ⟨_, _, _, _, h, fun _ => lf_pure hd (fun τ' η' g1 g2 => p_load_pim ho (by rw [g1 x (by simp [ho, Op.operands]), he]) ht c2 c1)⟩
  · exact h.elim
theorem ok_store {t : TypeId} {x y : Operand} {k : Kt} (hdn : o.dst = none) (ho : o.op = .store t x y) (h : tyK C.T t (fun ti => evK tm x (fun a => evK tm y (fun b => match a with
      | .ptr i ver kk j => blkK hp i ver (fun B => cellsK b (fun cs => ifK (cs.length.beq ti.sz && Nat.ble (j + ti.sz) B.sz) (elK B kk (fun e => forceK (lay e j cs) (fun e' =>
          match B with
          | ⟨ty, sz, true, _⟩ => k .dead [(i, ⟨ver, some ⟨ty, sz, true, [e']⟩⟩)] [] []
          | ⟨ty, sz, false, els⟩ => k .dead [(i, ⟨ver, some ⟨ty, sz, false, els.set kk e'⟩⟩)] [] [])))))
      | _ => False)))) : Goal C n tm hp o k := by
  obtain ⟨ti, ht, h⟩ := tyK_ok h
  have h := evK_ok (evK_ok h)
  split at h
  · rename_i i ver kk j he
    obtain ⟨B, hB, h⟩ := blkK_ok h
    obtain ⟨h1, h⟩ := cellsK_ok h
    obtain ⟨h2, h⟩ := ifK_ok h
    rw [Bool.and_eq_true] at h2
    obtain ⟨e, hee, hbx, h⟩ := elK_ok h
    have h := forceK_ok h
    have key : ∀ τ' η', (∀ y ∈ o.op.operands, evA τ' y = evA (tmF tm) y) → η' i = hpF hp i → Step C n o τ' η' (putA τ' o.dst .dead) (updE η' i ⟨ver, some { B with els := B.els.set kk (lay e j (cellsA (evA (tmF tm) y))) }⟩) := by
      intro τ' η' g1 g2
      have gx := g1 x (by simp [ho, Op.operands])
      have gy := g1 y (by simp [ho, Op.operands])
      have := s_store (C := C) (n := n) (τ := τ') (η := η') (B := B) ho hdn (by rw [gx, he]) (by rw [g2, hB]) hee ht (by rw [gy]; exact Nat.eq_of_beq_eq_true h2.1) (by rw [gy]; exact h1) (Nat.le_of_ble_eq_true h2.2)
      rw [gy] at this
      rw [hdn]
      exact this
    split at h
    · refine ⟨_, _, _, _, h, fun _ τ' η' g1 g2 => ?_⟩
      have := key τ' η' g1 (g2 i (.inr (by simp [Foot.ids])))
      obtain ⟨hb1, rfl⟩ := hbx rfl
      simp only at hb1
      subst hb1
      exact this
    · refine ⟨_, _, _, _, h, fun _ τ' η' g1 g2 => ?_⟩
      exact key τ' η' g1 (g2 i (.inr (by simp [Foot.ids])))
  · exact h.elim
end

section
variable {C : Cx} {n : Nat} {tm : List AV} {hp : List Ent} {o : Oper}

theorem ok_bin {op : BinOp} {xt yt : TypeId} {x y : Operand} {k : Kt} (hd : InB n o.dst) (ho : o.op = .binOp op xt x y yt) {u v : Value} (hx : evA (tmF tm) x = .c u) (hy : evA (tmF tm) y = .c v) (h : binK op u v k) : Goal C n tm hp o k := by
  have gx : ∀ τ', (∀ y ∈ o.op.operands, evA τ' y = evA (tmF tm) y) → evA τ' x = .c u := fun τ' g => by rw [g x (by simp [ho, Op.operands]), hx]
  have gy : ∀ τ', (∀ y ∈ o.op.operands, evA τ' y = evA (tmF tm) y) → evA τ' y = .c v := fun τ' g => by rw [g y (by simp [ho, Op.operands]), hy]
  unfold binK at h
  split at h
  · exact ⟨_, _, _, _, h, fun hq => lf_pure hd (fun τ' η' g1 _ => p_concat ho (gx τ' g1) (gy τ' g1) hq)⟩
  · exact ⟨_, _, _, _, h, fun hq => lf_pure hd (fun τ' η' g1 _ => p_div ho (gx τ' g1) (by rw [gy τ' g1, hq.1]) hq.2)⟩
  · exact ⟨_, _, _, _, h, fun hq => lf_pure hd (fun τ' η' g1 _ => p_rem ho (gx τ' g1) (by rw [gy τ' g1, hq.1]) hq.2)⟩
  · obtain ⟨r, hr, h⟩ := someK_ok h
    split at h
    · exact ⟨_, _, _, _, h, fun _ => lf_pure hd (fun τ' η' g1 _ => p_bin ho (gx τ' g1) (gy τ' g1) hr)⟩
    · exact ⟨_, _, _, _, h, fun _ => lf_pure hd (fun τ' η' g1 _ => p_bin ho (gx τ' g1) (gy τ' g1) hr)⟩
    · exact h.elim
theorem ok_nil {op : BinOp} {xt yt : TypeId} {x : Operand} {k : Kt} {ti : TI} (hd : InB n o.dst) (ho : o.op = .binOp op xt x (.const .nilIface) yt) (ht : TyOk C.P xt ti) (hk : ti.kind = .iface) (h : nilK op (evA (tmF tm) x) k) : Goal C n tm hp o k := by
  have gx : ∀ τ', (∀ y ∈ o.op.operands, evA τ' y = evA (tmF tm) y) → evA τ' x = evA (tmF tm) x := fun τ' g => g x (by simp [ho, Op.operands])
  unfold nilK at h
  split at h
  · rename_i e
    exact ⟨_, _, _, _, h, fun _ => lf_pure hd (fun τ' η' g1 _ => p_nil ho (.inl ⟨rfl, rfl⟩) (by rw [gx τ' g1, e]; rfl) ht hk)⟩
  · rename_i e
    exact ⟨_, _, _, _, h, fun _ => lf_pure hd (fun τ' η' g1 _ => p_nil (z := true) ho (.inr ⟨rfl, rfl⟩) (by rw [gx τ' g1, e]; rfl) ht hk)⟩
  · rename_i e
    exact ⟨_, _, _, _, h, fun _ => lf_pure hd (fun τ' η' g1 _ => p_nil ho (.inl ⟨rfl, rfl⟩) (by rw [gx τ' g1, e]; rfl) ht hk)⟩
  · rename_i e
    exact ⟨_, _, _, _, h, fun _ => lf_pure hd (fun τ' η' g1 _ => p_nil (z := false) ho (.inr ⟨rfl, rfl⟩) (by rw [gx τ' g1, e]; rfl) ht hk)⟩
  · exact h.elim
theorem fieldK_ok {s f : Nat} {k : Nat → TI → Prop} (h : fieldK C.T s f k) : ∃ ts fs off ft tf, TyOk C.P s ts ∧ ts.kind = .struct fs ∧ fs[f]? = some (off, ft) ∧ TyOk C.P ft tf ∧ k off tf := by
  obtain ⟨ts, h1, h⟩ := tyK_ok h
  split at h
  · rename_i fs hk
    obtain ⟨p, h2, h⟩ := getK_ok h
    obtain ⟨tf, h3, h⟩ := tyK_ok h
    exact ⟨ts, fs, p.1, p.2, tf, h1, hk, h2, h3, h⟩
  · exact h.elim
theorem bndK_ok {dflt : Nat} {x : Option Operand} {k : Nat → List Prop → Prop} (h : bndK tm dflt x k) : ∃ q ps, k q ps ∧ (AllP ps → ∀ τ', (∀ y, x = some y → evA τ' y = evA (tmF tm) y) → Bnd τ' dflt x q) := by
  cases x with
  | none => exact ⟨_, _, h, fun _ _ _ => rfl⟩
  | some y =>
    have h := evK_ok h
    split at h
    · rename_i kd z e
      refine ⟨_, _, h, fun hz τ' g => ⟨kd, ?_⟩⟩
      rw [g y rfl, e]
      have : ((z.toNat : Nat) : Int) = z := Int.toNat_of_nonneg hz
      rw [this]
    · exact h.elim
theorem srcK_ok {sz : Nat} {a : AV} {k : List (List AV) → List Nat → List Prop → Prop} (h : srcK hp sz a k) : ∃ new rb ps, k new rb ps ∧ (AllP ps → ∀ η', (∀ i ∈ rb, η' i = hpF hp i) → Src η' sz new a) := by
  unfold srcK at h
  split at h
  · obtain ⟨h1, h⟩ := ifK_ok h
    exact ⟨_, _, _, h, fun _ η' _ => ⟨Nat.eq_of_beq_eq_true h1, rfl⟩⟩
  · rename_i i ver len
    obtain ⟨B, hB, h⟩ := blkK_ok h
    obtain ⟨h1, h⟩ := ifK_ok h
    refine ⟨_, _, _, h, fun hl η' g => ⟨B, by rw [g i (by simp), hB], Nat.eq_of_beq_eq_true h1, ?_, ?_⟩⟩
    · have : B.els.length = len := hl
      omega
    · have : B.els.length = len := hl
      rw [List.drop_zero, List.take_of_length_le (by omega)]
  · rename_i i ver k0 len
    obtain ⟨B, hB, h⟩ := blkK_ok h
    obtain ⟨h1, h⟩ := ifK_ok h
    exact ⟨_, _, _, h, fun hl η' g => ⟨B, by rw [g i (by simp), hB], Nat.eq_of_beq_eq_true h1, hl, rfl⟩⟩
  · exact ⟨_, _, _, h, fun _ η' _ => rfl⟩
  · exact h.elim
theorem partsK_ok : ∀ {ps : List (Nat × Operand)} {k : List (Nat × AV) → Prop}, partsK tm ps k → k (ps.map (fun p => (p.1, evA (tmF tm) p.2)))
  | [], _, h => h
  | (i, x) :: r, k, h => by
    have h := evK_ok h
    exact partsK_ok (ps := r) (k := fun q => k ((i, evA (tmF tm) x) :: q)) h
theorem layK_ok {place : Nat → Option (Nat × Nat)} : ∀ {ps : List (Nat × AV)} {e : List AV} {k : List AV → Prop}, layK place e ps k → ∃ e', layAll place e ps = some e' ∧ k e'
  | [], e, _, h => ⟨e, rfl, h⟩
  | (i, x) :: r, e, k, h => by
    obtain ⟨p, hp, h⟩ := someK_ok h
    obtain ⟨h1, h⟩ := cellsK_ok h
    obtain ⟨h2, h⟩ := ifK_ok h
    rw [Bool.and_eq_true] at h2
    obtain ⟨e', h3, h4⟩ := layK_ok (ps := r) (forceK_ok h)
    refine ⟨e', ?_, h4⟩
    rw [layAll, hp]
    simp only
    rw [if_pos ⟨Nat.eq_of_beq_eq_true h2.1, Nat.le_of_ble_eq_true h2.2, h1⟩]
    exact h3
theorem chunkK_ok {sz : Nat} : ∀ {len : Nat} {l : List AV} {k : List (List AV) → Prop}, chunkK len sz l k → ∃ els, els.length = len ∧ (∀ x ∈ els, x.length = sz) ∧ els.flatten = l ∧ k els
  | 0, [], _, h => ⟨[], rfl, by simp, rfl, h⟩
  | 0, _ :: _, _, h => h.elim
  | len + 1, l, k, h => by
    have h := forceK_ok h
    obtain ⟨h1, h⟩ := ifK_ok h
    obtain ⟨els, e1, e2, e3, e4⟩ := chunkK_ok (len := len) (forceK_ok h)
    refine ⟨l.take sz :: els, by simp [e1], fun x hx => ?_, by rw [List.flatten_cons, e3, List.take_append_drop], e4⟩
    rcases List.mem_cons.1 hx with rfl | hx
    · exact Nat.eq_of_beq_eq_true h1
    · exact e2 x hx
theorem ones_cells {u : Value} (h : onesA (cellsA (.c u)) = true) : ∀ v ∈ u.cells.toList, v.oneCell' = true := by
  intro v hv
  cases u with
  | agg us =>
    have hv' : v ∈ us.toList := hv
    exact List.all_eq_true.1 h (.c v) (List.mem_map.2 ⟨v, hv', rfl⟩)
  | _ =>
    simp [Value.cells] at hv
    subst hv
    simpa [onesA, cellsA, oneA] using h

theorem ok_len {x : Operand} {t : TypeId} {k : Kt} (hd : InB n o.dst) (ho : o.op = .call { callee := .builtin .len, args := #[x], argTypes := #[t] }) (h : lenK C tm hp x t k) : Goal C n tm hp o k := by
  obtain ⟨ti, ht, h⟩ := tyK_ok h
  have h := evK_ok h
  have gx : ∀ τ', (∀ y ∈ o.op.operands, evA τ' y = evA (tmF tm) y) → evA τ' x = evA (tmF tm) x := fun τ' g => g x (by simp [ho, Op.operands, Call.operands])
  split at h
  · rename_i e' sz l hk e
    exact ⟨_, _, _, _, h, fun _ => lf_pure hd (fun τ' η' g1 _ => p_len ho ht (by rw [gx τ' g1, e]; rfl) (by rw [gx τ' g1, e]; exact ⟨_, hk⟩))⟩
  · rename_i e' i ver k0 len hk e
    obtain ⟨B, hB, h⟩ := blkK_ok h
    exact ⟨_, _, _, _, h, fun _ => lf_pure hd (fun τ' η' g1 g2 => p_len ho ht (by rw [gx τ' g1, e]; rfl) (by rw [gx τ' g1, e]; exact ⟨⟨_, hk⟩, by rw [g2 i (by simp), hB]⟩))⟩
  · rename_i hk e
    exact ⟨_, _, _, _, h, fun _ => lf_pure hd (fun τ' η' g1 _ => p_len ho ht (by rw [gx τ' g1, e]; rfl) (by rw [gx τ' g1, e]; exact ⟨_, hk⟩))⟩
  · rename_i hk e
    exact ⟨_, _, _, _, h, fun _ => lf_pure hd (fun τ' η' g1 _ => p_len ho ht (by rw [gx τ' g1, e]; rfl) (by rw [gx τ' g1, e]; exact hk))⟩
  · exact h.elim
theorem ok_append {x y : Operand} {t t' : TypeId} {k : Kt} (hd : InB n o.dst) (ho : o.op = .call { callee := .builtin .append, args := #[x, y], argTypes := #[t, t'] }) (h : appendK C tm hp o x y t t' k) : Goal C n tm hp o k := by
  obtain ⟨htt, h2⟩ := ifK_ok h
  clear h
  have htt := Nat.eq_of_beq_eq_true htt
  subst htt
  obtain ⟨ti, ht, h⟩ := tyK_ok h2
  have gx : ∀ τ', (∀ y ∈ o.op.operands, evA τ' y = evA (tmF tm) y) → evA τ' x = evA (tmF tm) x := fun τ' g => g x (by simp [ho, Op.operands, Call.operands])
  have gy : ∀ τ', (∀ y ∈ o.op.operands, evA τ' y = evA (tmF tm) y) → evA τ' y = evA (tmF tm) y := fun τ' g => g y (by simp [ho, Op.operands, Call.operands])
  split at h
  · rename_i ety hk
    obtain ⟨te, hte, h⟩ := tyK_ok h
    obtain ⟨h0, h⟩ := ifK_ok h
    have hz : 0 < te.sz := Nat.pos_of_ne_zero (fun e => by rw [e] at h0; simp at h0)
    have h := evK_ok (evK_ok h)
    split at h
    · rename_i i ver len e
      obtain ⟨B, hB, h⟩ := blkK_ok h
      obtain ⟨h1, h⟩ := ifK_ok h
      rw [Bool.and_eq_true] at h1
      have hsz := Nat.eq_of_beq_eq_true h1.1
      obtain ⟨new, rb, ps, h, hs⟩ := srcK_ok h
      refine ⟨_, _, _, _, h, fun hq τ' η' g1 g2 => ?_⟩
      rw [AllP_append] at hq
      have hi : η' i = ⟨ver, some B⟩ := by rw [g2 i (.inr (by simp [Foot.ids])), hB]
      exact s_append_own (C := C) (n := n) (τ := τ') (η := η') ho hd (by rw [gx τ' g1, e]) hi hq.2.1 (by rw [gy τ' g1]; exact hs hq.1 η' (fun j hj => g2 j (.inl hj))) ht hk hte hsz.symm (Nat.eq_of_beq_eq_true h1.2) (by omega) hq.2.2.1 hq.2.2.2
    · rename_i e
      obtain ⟨d, hdd, h⟩ := someK_ok h
      obtain ⟨en, hen, h⟩ := getK_ok h
      obtain ⟨new, rb, ps, h, hs⟩ := srcK_ok h
      refine ⟨_, _, _, _, h, fun hq τ' η' g1 g2 => ?_⟩
      rw [AllP_append] at hq
      have hη : (η' d).ver = en.ver := by rw [g2 d (.inr (by simp [Foot.ids])), hp_get hen]
      have := s_append_nil (C := C) (n := n) (τ := τ') (η := η') ho hdd (by rw [hdd] at hd; exact hd) (by rw [gx τ' g1, e]) rfl (by rw [gy τ' g1]; exact hs hq.1 η' (fun j hj => g2 j (.inl hj))) ht hk hte hz hq.2.1 hq.2.2
      rw [hη] at this
      exact this
    · exact h.elim
  · exact h.elim
theorem ok_call {c : Call} {any : Prop} {k : Kt} (hd : InB n o.dst) (ho : o.op = .call c) (ha : any → Goal C n tm hp o k) (h : callK C tm hp o c any k) : Goal C n tm hp o k := by
  obtain ⟨callee, args, argTypes⟩ := c
  unfold callK at h
  split at h
  · rename_i hc
    split at h
    · rename_i x t h1 h2
      simp only at hc h1 h2
      have e1 : args = #[x] := Array.ext' h1
      have e2 : argTypes = #[t] := Array.ext' h2
      subst hc e1 e2
      exact ok_len hd ho h
    · exact h.elim
  · rename_i hc
    split at h
    · rename_i x y t t' h1 h2
      simp only at hc h1 h2
      have e1 : args = #[x, y] := Array.ext' h1
      have e2 : argTypes = #[t, t'] := Array.ext' h2
      subst hc e1 e2
      exact ok_append hd ho h
    · exact h.elim
  · exact ha h

theorem opK_ok {any : Prop} {k : Kt} (hd : InB n o.dst) (ha : any → Goal C n tm hp o k) (h : opK C tm hp o any k) : Goal C n tm hp o k := by
  unfold opK at h
  split at h
  · rename_i x ho
    exact ⟨_, _, _, _, evK_ok h, fun _ => lf_pure hd (fun τ' η' g1 _ => by rw [← g1 x (by simp [ho, Op.operands])]; exact p_move (.inl ho))⟩
  · rename_i x ho
    exact ⟨_, _, _, _, evK_ok h, fun _ => lf_pure hd (fun τ' η' g1 _ => by rw [← g1 x (by simp [ho, Op.operands])]; exact p_move (.inr ho))⟩
  · rename_i t ho
    obtain ⟨ti, ht, h⟩ := tyK_ok h
    obtain ⟨d, hdd, h⟩ := someK_ok h
    obtain ⟨e, he, h⟩ := getK_ok h
    obtain ⟨h1, h⟩ := cellsK_ok h
    refine ⟨_, _, _, _, h, fun _ τ' η' g1 g2 => ?_⟩
    have hη : (η' d).ver = e.ver := by rw [g2 d (.inr (by simp [Foot.ids])), hp_get he]
    have := s_alloc (C := C) (n := n) (τ := τ') (η := η') ho hdd (by rw [hdd] at hd; exact hd) ht h1
    rw [hη] at this
    exact this
  · rename_i t x ho
    have h := evK_ok h
    obtain ⟨d, hdd, h⟩ := someK_ok h
    obtain ⟨e, he, h⟩ := getK_ok h
    obtain ⟨h1, h⟩ := cellsK_ok h
    refine ⟨_, _, _, _, h, fun _ τ' η' g1 g2 => ?_⟩
    have hη : (η' d).ver = e.ver := by rw [g2 d (.inr (by simp [Foot.ids])), hp_get he]
    have gx := g1 x (by simp [ho, Op.operands])
    have := s_box (C := C) (n := n) (τ := τ') (η := η') ho hdd (by rw [hdd] at hd; exact hd) (by rw [gx]; exact h1)
    rw [hη, gx] at this
    exact this
  · rename_i t x ho
    exact ok_load hd ho h
  · rename_i t x y ho
    split at h
    · exact h.elim
    · rename_i hdn
      exact ok_store hdn ho h
  · rename_i x ho
    have h := evK_ok h
    split at h
    · rename_i i ver kk j e
      obtain ⟨B, hB, h⟩ := blkK_ok h
      exact ⟨_, _, _, _, h, fun _ => lf_pure hd (fun τ' η' g1 g2 => p_nilCheck_ptr ho (by rw [g1 x (by simp [ho, Op.operands]), e]) (by rw [g2 i (by simp), hB]))⟩
    · rename_i e
      exact ⟨_, _, _, _, h, fun _ => lf_pure hd (fun τ' η' g1 g2 => p_nilCheck_pim ho (by rw [g1 x (by simp [ho, Op.operands]), e]))⟩
    · exact h.elim
  · rename_i op xt x y yt ho
    have h := evK_ok h
    split at h
    · obtain ⟨ti, ht, h⟩ := tyK_ok h
      split at h
      · rename_i hk
        exact ok_nil hd ho ht hk h
      · exact h.elim
    · have h := evK_ok h
      have gx : ∀ τ', (∀ y ∈ o.op.operands, evA τ' y = evA (tmF tm) y) → evA τ' x = evA (tmF tm) x := fun τ' g => g x (by simp [ho, Op.operands])
      have gy : ∀ τ', (∀ y ∈ o.op.operands, evA τ' y = evA (tmF tm) y) → evA τ' y = evA (tmF tm) y := fun τ' g => g y (by simp [ho, Op.operands])
      split at h
      · rename_i p q e1 e2
        obtain ⟨ti, ht, h⟩ := tyK_ok h
        split at h
        · rename_i hk
          split at h
          · exact ⟨_, _, _, _, h, fun _ => lf_pure hd (fun τ' η' g1 _ => p_boolEq ho (by rw [gx τ' g1, e1]) (by rw [gy τ' g1, e2]) ht hk (.inl ⟨rfl, rfl⟩))⟩
          · exact ⟨_, _, _, _, h, fun _ => lf_pure hd (fun τ' η' g1 _ => p_boolEq ho (by rw [gx τ' g1, e1]) (by rw [gy τ' g1, e2]) ht hk (.inr ⟨rfl, rfl⟩))⟩
          · exact h.elim
        · exact h.elim
      · rename_i e1 e2
        exact ok_bin hd ho e1 e2 h
      · exact h.elim
  · rename_i t x ho
    have h := evK_ok h
    split at h
    · rename_i e
      exact ⟨_, _, _, _, h, fun _ => lf_pure hd (fun τ' η' g1 _ => p_not ho (by rw [g1 x (by simp [ho, Op.operands]), e]))⟩
    · exact h.elim
  · rename_i t x ho
    have h := evK_ok h
    split at h
    · rename_i e
      exact ⟨_, _, _, _, h, fun _ => lf_pure hd (fun τ' η' g1 _ => p_neg ho (by rw [g1 x (by simp [ho, Op.operands]), e]))⟩
    · exact h.elim
  · rename_i c x y ho
    have h := evK_ok h
    split at h
    · rename_i b e
      obtain ⟨h1, h2⟩ := h trivial
      have gc : ∀ τ', (∀ y ∈ o.op.operands, evA τ' y = evA (tmF tm) y) → evA τ' c = .c (.bool b) := fun τ' g => by rw [g c (by simp [ho, Op.operands]), e]
      cases b
      · refine ⟨_, _, _, _, evK_ok (h2 rfl), fun _ => lf_pure hd (fun τ' η' g1 _ => ?_)⟩
        have := p_pick (C := C) (n := n) (η := η') ho (gc τ' g1)
        rw [← g1 y (by simp [ho, Op.operands])]
        simpa using this
      · refine ⟨_, _, _, _, evK_ok (h1 rfl), fun _ => lf_pure hd (fun τ' η' g1 _ => ?_)⟩
        have := p_pick (C := C) (n := n) (η := η') ho (gc τ' g1)
        rw [← g1 x (by simp [ho, Op.operands])]
        simpa using this
    · exact h.elim
  · rename_i src dst x ho
    obtain ⟨ts, hts, h⟩ := tyK_ok h
    obtain ⟨td, htd, h⟩ := tyK_ok h
    have h := evK_ok h
    split at h
    · rename_i e hk
      exact ⟨_, _, _, _, h, fun _ => lf_pure hd (fun τ' η' g1 _ => p_conv ho (by rw [g1 x (by simp [ho, Op.operands]), e]) hts htd hk)⟩
    · rename_i e hk
      exact ⟨_, _, _, _, h, fun _ => lf_pure hd (fun τ' η' g1 _ => p_conv_str ho (by rw [g1 x (by simp [ho, Op.operands]), e]) hts htd hk)⟩
    · exact h.elim
  · rename_i xt x ho
    obtain ⟨ti, ht, h⟩ := tyK_ok h
    split at h
    · exact h.elim
    · exact h.elim
    · rename_i k1 k2
      exact ⟨_, _, _, _, evK_ok h, fun _ => lf_pure hd (fun τ' η' g1 _ => by rw [← g1 x (by simp [ho, Op.operands])]; exact p_iface ho ht k1 k2)⟩
  · rename_i x j ho
    have h := evK_ok h
    split at h
    · rename_i e
      obtain ⟨y, hy, h⟩ := getK_ok h
      exact ⟨_, _, _, _, h, fun _ => lf_pure hd (fun τ' η' g1 _ => p_extract ho (by rw [g1 x (by simp [ho, Op.operands]), e]) hy)⟩
    · exact h.elim
  · rename_i s x f ho
    obtain ⟨ts, fs, off, ft, tf, q1, q2, q3, q4, h⟩ := fieldK_ok h
    obtain ⟨h0, h⟩ := ifK_ok h
    have hz : tf.sz ≠ 0 := fun e => by rw [e] at h0; simp at h0
    have h := evK_ok h
    split at h
    · rename_i i ver kk j e
      obtain ⟨B, hB, h⟩ := blkK_ok h
      exact ⟨_, _, _, _, h, fun _ => lf_pure hd (fun τ' η' g1 g2 => p_field_own ho (by rw [g1 x (by simp [ho, Op.operands]), e]) (by rw [g2 i (by simp), hB]) q1 q2 q3 q4 hz)⟩
    · rename_i e
      exact ⟨_, _, _, _, h, fun _ => lf_pure hd (fun τ' η' g1 g2 => p_field_pim ho (by rw [g1 x (by simp [ho, Op.operands]), e]) q1 q2 q3 q4 hz)⟩
    · exact h.elim
  · rename_i s x f ho
    obtain ⟨ts, fs, off, ft, tf, q1, q2, q3, q4, h⟩ := fieldK_ok h
    have h := evK_ok h
    split at h
    · rename_i e
      obtain ⟨c1, c2, h⟩ := cutK_ok h
      exact ⟨_, _, _, _, h, fun _ => lf_pure hd (fun τ' η' g1 g2 => p_field ho (by rw [g1 x (by simp [ho, Op.operands]), e]) q1 q2 q3 q4 c2 c1)⟩
    · exact h.elim
  · rename_i t x y ho
    obtain ⟨ti, ht, h⟩ := tyK_ok h
    split at h
    · rename_i e hk
      obtain ⟨te, hte, h⟩ := tyK_ok h
      have h := evK_ok (evK_ok h)
      split at h
      · rename_i e1 e2
        obtain ⟨h1, h⟩ := ifK_ok h
        obtain ⟨el, hel, h⟩ := h trivial
        exact ⟨_, _, _, _, h, fun hz => lf_pure hd (fun τ' η' g1 g2 => p_at_sl ho (by rw [g1 x (by simp [ho, Op.operands]), e1]) (by rw [g1 y (by simp [ho, Op.operands]), e2]) ht hk hte (Nat.eq_of_beq_eq_true h1) hz hel)⟩
      · rename_i i ver k0 len kd z e1 e2
        obtain ⟨B, hB, h⟩ := blkK_ok h
        obtain ⟨h1, h⟩ := ifK_ok h
        exact ⟨_, _, _, _, h, fun hz => lf_pure hd (fun τ' η' g1 g2 => p_at_own ho (by rw [g1 x (by simp [ho, Op.operands]), e1]) (by rw [g2 i (by simp), hB]) (by rw [g1 y (by simp [ho, Op.operands]), e2]) ht hk hte (Nat.eq_of_beq_eq_true h1) hz.1 hz.2)⟩
      · exact h.elim
    · exact h.elim
  · rename_i t x y ho
    obtain ⟨ti, ht, h⟩ := tyK_ok h
    split at h
    · rename_i hk
      have h := evK_ok (evK_ok h)
      split at h
      · rename_i e1 e2
        exact ⟨_, _, _, _, h, fun hz => lf_pure hd (fun τ' η' g1 g2 => p_index_str ho (by rw [g1 x (by simp [ho, Op.operands]), e1]) (by rw [g1 y (by simp [ho, Op.operands]), e2]) ht hk hz.1 hz.2)⟩
      · exact h.elim
    · exact h.elim
  · exact h.elim
  · rename_i t x lo hi ho
    obtain ⟨ti, ht, h⟩ := tyK_ok h
    have h := evK_ok h
    have gx : ∀ τ', (∀ y ∈ o.op.operands, evA τ' y = evA (tmF tm) y) → evA τ' x = evA (tmF tm) x := fun τ' g => g x (by simp [ho, Op.operands])
    have glo : ∀ τ', (∀ y ∈ o.op.operands, evA τ' y = evA (tmF tm) y) → ∀ y, lo = some y → evA τ' y = evA (tmF tm) y := fun τ' g y e => g y (by subst e; simp [ho, Op.operands])
    have ghi : ∀ τ', (∀ y ∈ o.op.operands, evA τ' y = evA (tmF tm) y) → ∀ y, hi = some y → evA τ' y = evA (tmF tm) y := fun τ' g y e => g y (by subst e; simp [ho, Op.operands])
    split at h
    · rename_i s hk e
      obtain ⟨l, p1, h, b1⟩ := bndK_ok h
      obtain ⟨r, p2, h, b2⟩ := bndK_ok h
      refine ⟨_, _, _, _, h, fun hz => lf_pure hd (fun τ' η' g1 _ => ?_)⟩
      rw [AllP_append, AllP_append] at hz
      exact p_slice_str ho (by rw [gx τ' g1, e]) ht hk (b1 hz.1.1 τ' (glo τ' g1)) (b2 hz.1.2 τ' (ghi τ' g1)) hz.2.1 hz.2.2
    · rename_i ety sz ls hk e
      obtain ⟨te, hte, h⟩ := tyK_ok h
      obtain ⟨h1, h⟩ := ifK_ok h
      obtain ⟨l, p1, h, b1⟩ := bndK_ok h
      obtain ⟨r, p2, h, b2⟩ := bndK_ok h
      refine ⟨_, _, _, _, h, fun hz => lf_pure hd (fun τ' η' g1 _ => ?_)⟩
      rw [AllP_append, AllP_append] at hz
      exact p_slice_sl ho (by rw [gx τ' g1, e]) ht hk hte (Nat.eq_of_beq_eq_true h1) (b1 hz.1.1 τ' (glo τ' g1)) (b2 hz.1.2 τ' (ghi τ' g1)) hz.2.1 hz.2.2
    · rename_i ety i ver k0 len hk e
      obtain ⟨te, hte, h⟩ := tyK_ok h
      obtain ⟨B, hB, h⟩ := blkK_ok h
      obtain ⟨h1, h⟩ := ifK_ok h
      obtain ⟨l, p1, h, b1⟩ := bndK_ok h
      obtain ⟨r, p2, h, b2⟩ := bndK_ok h
      refine ⟨_, _, _, _, h, fun hz => lf_pure hd (fun τ' η' g1 g2 => ?_)⟩
      rw [AllP_append, AllP_append] at hz
      exact p_slice_own ho (by rw [gx τ' g1, e]) (by rw [g2 i (by simp), hB]) ht hk hte (Nat.eq_of_beq_eq_true h1) (b1 hz.1.1 τ' (glo τ' g1)) (b2 hz.1.2 τ' (ghi τ' g1)) hz.2.1 hz.2.2
    · exact h.elim
  · rename_i c ho
    exact ok_call hd ho ha h
  · rename_i t ps ho
    obtain ⟨ti, ht, h⟩ := tyK_ok h
    split at h
    · rename_i fs hk
      obtain ⟨h1, h⟩ := ifK_ok h
      rw [Bool.and_eq_true] at h1
      have h := forceK_ok (partsK_ok h)
      obtain ⟨e', h2, h⟩ := layK_ok h
      refine ⟨_, _, _, _, h, fun _ => lf_pure hd (fun τ' η' g1 _ => ?_)⟩
      have hps : ps.toList.map (fun p => (p.1, evA τ' p.2)) = ps.toList.map (fun p => (p.1, evA (tmF tm) p.2)) := List.map_congr_left (fun p hp => by
        rw [g1 p.2 (by rw [ho]; simp only [Op.operands]; simp; exact ⟨p.1, by simpa using hp⟩)])
      refine p_build (fsz := fun q => match C.T[q]? with | some (some tf) => tf.sz | _ => 0) ho ht hk (fun p hp => ?_) (ones_cells h1.1) (by rw [hps]; exact h2)
      have := List.all_eq_true.1 h1.2 p hp
      split at this
      · rename_i tf htf
        exact ⟨tf, C.tyOk _ _ htf, by simp only⟩
      · cases this
    · exact h.elim
  · rename_i t len ps ho
    obtain ⟨ti, ht, h⟩ := tyK_ok h
    split at h
    · rename_i ety hk
      obtain ⟨te, hte, h⟩ := tyK_ok h
      obtain ⟨h1, h⟩ := ifK_ok h
      rw [Bool.and_eq_true, Bool.and_eq_true] at h1
      obtain ⟨d, hdd, h⟩ := someK_ok h
      obtain ⟨en, hen, h⟩ := getK_ok h
      have h := forceK_ok (partsK_ok h)
      obtain ⟨fl, h2, h⟩ := layK_ok h
      obtain ⟨els, e1, e2, e3, h⟩ := chunkK_ok h
      refine ⟨_, _, _, _, h, fun _ τ' η' g1 g2 => ?_⟩
      have hz : 0 < te.sz := Nat.pos_of_ne_zero (fun e => by rw [e] at h1; simp at h1)
      have hη : (η' d).ver = en.ver := by rw [g2 d (.inr (by simp [Foot.ids])), hp_get hen]
      have hps : ps.toList.map (fun p => (p.1, evA τ' p.2)) = ps.toList.map (fun p => (p.1, evA (tmF tm) p.2)) := List.map_congr_left (fun p hp => by
        rw [g1 p.2 (by rw [ho]; simp only [Op.operands]; simp; exact ⟨p.1, by simpa using hp⟩)])
      have := s_buildSlice (C := C) (n := n) (τ := τ') (η := η') (els := els) ho hdd (by rw [hdd] at hd; exact hd) ht hk hte (Nat.le_of_ble_eq_true h1.1.2) hz (ones_cells h1.2) e1 e2 (by rw [hps, h2, e3])
      rw [hη] at this
      exact this
    · exact h.elim
  · exact ha h
end

def updK : List Ent → List (Nat × Ent) → (List Ent → Prop) → Prop
  | hp, [], k => k hp
  | hp, (i, e) :: r, k => setK hp i e (fun hp' => updK hp' r k)
def stepK (tm : List AV) (hp : List Ent) (dst : Option Tmp) (x : AV) (ups : List (Nat × Ent)) (k : List AV → List Ent → Prop) : Prop :=
  match dst with
  | none => updK hp ups (fun hp' => k tm hp')
  | some d => setK tm d x (fun tm' => updK hp ups (fun hp' => k tm' hp'))
def dstOf (ops : Array Oper) (j : Nat) : Option Tmp := (ops[j]?).bind (·.dst)
/-- truths known of slots -/
def lookN : List (Nat × Bool) → Nat → Option Bool
  | [], _ => none
  | (i, b) :: r, d => match i.beq d with
    | true => some b
    | false => lookN r d
def rmN : List (Nat × Bool) → Nat → List (Nat × Bool)
  | [], _ => []
  | (i, b) :: r, d => match i.beq d with
    | true => rmN r d
    | false => (i, b) :: rmN r d
def rmO (kn : List (Nat × Bool)) : Option Tmp → List (Nat × Bool)
  | none => kn
  | some d => rmN kn d
def guardK (ops : Array Oper) (kn : List (Nat × Bool)) (tm : List AV) (g : Option (Nat × Bool)) (run skip : List (Nat × Bool) → Prop) : Prop :=
  match g with
  | none => run kn
  | some (j, want) => someK (dstOf ops j) (fun d => match lookN kn d, want with
    | some true, true => run kn
    | some false, false => run kn
    | some _, _ => skip kn
    | none, true => getK tm d (fun a => match a with
      | .c (.bool b) => True → (b = true → run ((d, true) :: kn)) ∧ (b = false → skip ((d, false) :: kn))
      | .c (.tuple _) => skip kn
      | _ => False)
    | none, false => getK tm d (fun a => match a with
      | .c (.bool b) => True → (b = false → run ((d, false) :: kn)) ∧ (b = true → skip ((d, true) :: kn))
      | .c (.tuple _) => skip kn
      | _ => False))
/-- an operation that hands an operand on: a move, a choice by a truth that is known -/
def pickK (kn : List (Nat × Bool)) (tm : List AV) (o : Oper) (els : Prop) (k : Operand → AV → Prop) : Prop :=
  match o.op with
  | .move x => evK tm x (k x)
  | .assign x => evK tm x (k x)
  | .pick (.tmp c) x y => match lookN kn c with
    | some true => evK tm x (k x)
    | some false => evK tm y (k y)
    | none => els
  | _ => els
/-- the truths known behind it -/
def knZ (kn : List (Nat × Bool)) (dst : Option Tmp) (z : Operand) : List (Nat × Bool) :=
  match dst with
  | none => kn
  | some d => match z with
    | .const (.bool b) => (d, b) :: rmN kn d
    | .tmp s => match lookN kn s with
      | some b => (d, b) :: rmN kn d
      | none => rmN kn d
    | _ => rmN kn d
def allK : List Prop → Prop → Prop
  | [], K => K
  | p :: r, K => p ∧ allK r K
theorem allK_ok : ∀ {ps : List Prop} {K : Prop}, allK ps K → AllP ps ∧ K
  | [], _, h => ⟨trivial, h⟩
  | p :: r, K, h => by
    obtain ⟨h1, h2⟩ := h
    obtain ⟨h3, h4⟩ := allK_ok (ps := r) h2
    exact ⟨AllP_cons.2 ⟨h1, h3⟩, h4⟩
def vcT (C : Cx) (ops : Array Oper) : List Oper → List (Nat × Bool) → List AV → List Ent → List Foot → List Prop → (List Foot → List AV → List Ent → Prop) → Prop
  | [], _, tm, hp, fs, ps, K => True → allK ps (K fs.reverse tm hp)
  | o :: os, kn, tm, hp, fs, ps, K =>
    guardK ops kn tm o.guard
      (fun kn => pickK kn tm o
        (opK C tm hp o (True → ∃ f : Foot, LF C tm.length o (tmF tm) (hpF hp) f ∧ stepK tm hp o.dst f.x f.ups (fun tm' hp' => forceK (rmO kn o.dst) (fun kn' => vcT C ops os kn' tm' hp' (f :: fs) ps K)))
          (fun x ups rb qs => stepK tm hp o.dst x ups (fun tm' hp' => forceK (ps ++ qs) (fun ps' => forceK (rmO kn o.dst) (fun kn' => vcT C ops os kn' tm' hp' (⟨x, ups, rb⟩ :: fs) ps' K)))))
        (fun z x => stepK tm hp o.dst x [] (fun tm' hp' => forceK (knZ kn o.dst z) (fun kn' => vcT C ops os kn' tm' hp' (⟨x, [], []⟩ :: fs) ps K))))
      (fun kn => stepK tm hp o.dst (.c (.tuple #[])) [] (fun tm' hp' => forceK (rmO kn o.dst) (fun kn' => vcT C ops os kn' tm' hp' (⟨.c (.tuple #[]), [], []⟩ :: fs) ps K)))

def KnOk (tm : List AV) (kn : List (Nat × Bool)) : Prop := ∀ d b, (d, b) ∈ kn → d < tm.length ∧ tmF tm d = .c (.bool b)
theorem lookN_ok {kn : List (Nat × Bool)} {d : Nat} {b : Bool} (h : lookN kn d = some b) : (d, b) ∈ kn := by
  induction kn with
  | nil => cases h
  | cons p r ih =>
    obtain ⟨i, q⟩ := p
    rw [lookN] at h
    split at h
    · rename_i hb
      have := Nat.eq_of_beq_eq_true hb
      subst this
      injection h with h
      subst h
      exact List.mem_cons_self
    · exact List.mem_cons_of_mem _ (ih h)
theorem rmN_mem {kn : List (Nat × Bool)} {d i : Nat} {b : Bool} (h : (i, b) ∈ rmN kn d) : (i, b) ∈ kn ∧ i ≠ d := by
  induction kn with
  | nil => cases h
  | cons p r ih =>
    obtain ⟨j, q⟩ := p
    rw [rmN] at h
    split at h
    · exact ⟨List.mem_cons_of_mem _ (ih h).1, (ih h).2⟩
    · rename_i hb
      rcases List.mem_cons.1 h with e | h
      · injection e with e1 e2
        subst e1 e2
        exact ⟨List.mem_cons_self, fun e => by rw [e, Nat.beq_refl] at hb; cases hb⟩
      · exact ⟨List.mem_cons_of_mem _ (ih h).1, (ih h).2⟩
theorem kn_step {tm tm' : List AV} {kn : List (Nat × Bool)} {dst : Option Tmp} {x : AV} (h : KnOk tm kn) (hl : tm'.length = tm.length) (ht : tmF tm' = putA (tmF tm) dst x) : KnOk tm' (rmO kn dst) := by
  intro d b hd
  cases dst with
  | none =>
    obtain ⟨h1, h2⟩ := h d b hd
    exact ⟨by rw [hl]; exact h1, by rw [ht]; exact h2⟩
  | some q =>
    obtain ⟨h0, hne⟩ := rmN_mem hd
    obtain ⟨h1, h2⟩ := h d b h0
    refine ⟨by rw [hl]; exact h1, ?_⟩
    rw [ht]
    simp only [putA, hne, if_false]
    exact h2

section
variable {C : Cx} {ops : Array Oper}
theorem tmF_set {tm : List AV} {d : Nat} {x : AV} (h : d < tm.length) : tmF (tm.set d x) = putA (tmF tm) (some d) x := by
  funext t
  show (tm.set d x).getD t .dead = if t = d then x else tm.getD t .dead
  rw [List.getD_eq_getElem?_getD, List.getD_eq_getElem?_getD]
  by_cases e : t = d
  · subst e; simp [h]
  · rw [List.getElem?_set_ne (fun h => e h.symm), if_neg e]
theorem hpF_set {hp : List Ent} {i : Nat} {x : Ent} (h : i < hp.length) : hpF (hp.set i x) = updE (hpF hp) i x := by
  funext t
  show (hp.set i x).getD t _ = if t = i then x else hp.getD t _
  rw [List.getD_eq_getElem?_getD, List.getD_eq_getElem?_getD]
  by_cases e : t = i
  · subst e; simp [h]
  · rw [List.getElem?_set_ne (fun h => e h.symm), if_neg e]
theorem updK_ok : ∀ {ups : List (Nat × Ent)} {hp : List Ent} {k : List Ent → Prop}, updK hp ups k → ∃ hp', hpF hp' = updAll (hpF hp) ups ∧ k hp'
  | [], hp, _, h => ⟨hp, rfl, h⟩
  | (i, e) :: r, hp, k, h => by
    obtain ⟨h1, h2⟩ := setK_ok h
    obtain ⟨hp', h3, h4⟩ := updK_ok (ups := r) h2
    exact ⟨hp', by rw [h3, hpF_set h1]; rfl, h4⟩
theorem stepK_ok {tm : List AV} {hp : List Ent} {dst : Option Tmp} {x : AV} {ups : List (Nat × Ent)} {k : List AV → List Ent → Prop} (h : stepK tm hp dst x ups k) :
    InB tm.length dst ∧ ∃ tm' hp', tm'.length = tm.length ∧ tmF tm' = putA (tmF tm) dst x ∧ hpF hp' = updAll (hpF hp) ups ∧ k tm' hp' := by
  cases dst with
  | none =>
    obtain ⟨hp', h1, h2⟩ := updK_ok h
    exact ⟨trivial, tm, hp', rfl, rfl, h1, h2⟩
  | some d =>
    obtain ⟨h0, h⟩ := setK_ok h
    obtain ⟨hp', h1, h2⟩ := updK_ok h
    exact ⟨h0, tm.set d x, hp', by simp, tmF_set h0, h1, h2⟩

theorem knZ_ok {tm tm' : List AV} {kn : List (Nat × Bool)} {dst : Option Tmp} {z : Operand} (h : KnOk tm kn) (hin : InB tm.length dst) (hl : tm'.length = tm.length) (ht : tmF tm' = putA (tmF tm) dst (evA (tmF tm) z)) : KnOk tm' (knZ kn dst z) := by
  have hr := kn_step (x := evA (tmF tm) z) h hl ht
  cases dst with
  | none => exact hr
  | some d =>
    have hd : tmF tm' d = evA (tmF tm) z := by rw [ht]; simp [putA]
    have hin' : d < tm'.length := by rw [hl]; exact hin
    have more : ∀ b, evA (tmF tm) z = .c (.bool b) → KnOk tm' ((d, b) :: rmN kn d) := fun b hb i q hi => by
      rcases List.mem_cons.1 hi with e | hi
      · injection e with e1 e2; subst e1 e2; exact ⟨hin', by rw [hd, hb]⟩
      · exact hr i q hi
    unfold knZ
    simp only
    split
    · exact more _ rfl
    · rename_i s
      cases hl : lookN kn s with
      | none => exact hr
      | some b => exact more b (h _ _ (lookN_ok hl)).2
    · exact hr
theorem forceK_iff {α : Type} : ∀ (l : List α) (k : List α → Prop), forceK l k ↔ k l
  | [], _ => Iff.rfl
  | x :: r, k => forceK_iff r (fun q => k (x :: q))
theorem setK_mono {α : Type} : ∀ {l : List α} {n : Nat} {v : α} {k k' : List α → Prop}, setK l n v k → (∀ q, k q → k' q) → setK l n v k'
  | [], _, _, _, _, h, _ => h
  | _ :: _, 0, _, _, _, h, hk => hk _ h
  | _ :: r, n + 1, v, _, _, h, hk => setK_mono (l := r) (n := n) (v := v) h (fun _ hq => hk _ hq)
theorem updK_mono : ∀ {ups : List (Nat × Ent)} {hp : List Ent} {k k' : List Ent → Prop}, updK hp ups k → (∀ q, k q → k' q) → updK hp ups k'
  | [], _, _, _, h, hk => hk _ h
  | (_, _) :: r, _, _, _, h, hk => setK_mono h (fun _ hq => updK_mono (ups := r) hq hk)
theorem stepK_mono {tm : List AV} {hp : List Ent} {dst : Option Tmp} {x : AV} {ups : List (Nat × Ent)} {k k' : List AV → List Ent → Prop} (h : stepK tm hp dst x ups k) (hk : ∀ a b, k a b → k' a b) : stepK tm hp dst x ups k' := by
  cases dst with
  | none => exact updK_mono h (fun _ hq => hk _ _ hq)
  | some d => exact setK_mono h (fun _ hq => updK_mono hq (fun _ hq => hk _ _ hq))
theorem looks_ev {o : Oper} {τ τ' : Nat → AV} (h : ∀ t ∈ o.looksAt ops, τ' t = τ t) : ∀ y ∈ o.op.operands, evA τ' y = evA τ y := by
  intro y hy
  rcases y with t | v | g | f
  · refine h t ?_
    unfold Oper.looksAt
    refine List.mem_append.2 (.inl (List.mem_filterMap.2 ⟨.tmp t, by simpa using hy, rfl⟩))
  · rfl
  · rfl
  · rfl
theorem guard_ok {n : Nat} {o : Oper} {j d : Nat} {want b : Bool} {τ : Nat → AV} {η : Nat → Ent} {w0 : World} {X : XX} {m : MM} {a : Act} {w : World} (hr : Rep C n w0 X τ η m a w) (hg : o.guard = some (j, want)) (hj : dstOf ops j = some d) (hd : d < n) (hb : τ d = .c (.bool b)) :
    Region.wanted o (yielded ops a.tmps) = (b == want) := by
  have h1 := hr.tm d
  rw [hb] at h1
  have h2 := rv_c h1
  have hlt : d < a.tmps.size := by rw [hr.sz]; exact hd
  rw [Array.getD_eq_getD_getElem?, Array.getElem?_eq_getElem hlt] at h2
  simp only [Option.getD_some] at h2
  unfold dstOf at hj
  simp only [Region.wanted, hg, yielded, hj, Option.bind_some, Array.getElem?_eq_getElem hlt, h2]
  cases b <;> cases want <;> rfl
theorem looks_guard {o : Oper} {j d : Nat} {want : Bool} (hg : o.guard = some (j, want)) (hj : dstOf ops j = some d) : d ∈ o.looksAt ops := by
  unfold Oper.looksAt
  refine List.mem_append.2 (.inr ?_)
  rw [hg]
  unfold dstOf at hj
  simp [hj]

theorem ts_run {n : Nat} {o : Oper} {τ : Nat → AV} {η : Nat → Ent} {f : Foot} (h : LF C n o τ η f) (hg : o.guard = none ∨ ∃ j d want, o.guard = some (j, want) ∧ dstOf ops j = some d ∧ d < n ∧ τ d = .c (.bool want)) : TS C n ops o τ η f := by
  intro τ' η' h1 h2 w0 X m a w hr
  have hw : Region.wanted o (yielded ops a.tmps) = true := by
    rcases hg with hg | ⟨j, d, want, g1, g2, g3, g4⟩
    · simp [Region.wanted, hg]
    · rw [guard_ok hr g1 g2 g3 (by rw [h1 d (looks_guard g1 g2), g4])]
      simp
  unfold OpWp
  rw [if_pos hw]
  exact h τ' η' (looks_ev h1) h2 w0 X m a w hr
theorem guard_no {n : Nat} {o : Oper} {j d : Nat} {want : Bool} {τ : Nat → AV} {η : Nat → Ent} {w0 : World} {X : XX} {m : MM} {a : Act} {w : World} {us : Array Value} (hr : Rep C n w0 X τ η m a w) (hg : o.guard = some (j, want)) (hj : dstOf ops j = some d) (hd : d < n) (hb : τ d = .c (.tuple us)) :
    Region.wanted o (yielded ops a.tmps) = false := by
  have h1 := hr.tm d
  rw [hb] at h1
  have h2 := rv_c h1
  have hlt : d < a.tmps.size := by rw [hr.sz]; exact hd
  rw [Array.getD_eq_getD_getElem?, Array.getElem?_eq_getElem hlt] at h2
  simp only [Option.getD_some] at h2
  unfold dstOf at hj
  simp only [Region.wanted, hg, yielded, hj, Option.bind_some, Array.getElem?_eq_getElem hlt, h2]
  rfl
theorem ts_skip {n : Nat} {o : Oper} {τ : Nat → AV} {η : Nat → Ent} (hd : InB n o.dst) {j d : Nat} {want : Bool} (g1 : o.guard = some (j, want)) (g2 : dstOf ops j = some d) (g3 : d < n) (g4 : τ d = .c (.bool (!want)) ∨ ∃ us, τ d = .c (.tuple us)) : TS C n ops o τ η ⟨.c (.tuple #[]), [], []⟩ := by
  intro τ' η' h1 h2 w0 X m a w hr
  have hw : Region.wanted o (yielded ops a.tmps) = false := by
    rcases g4 with g4 | ⟨us, g4⟩
    · rw [guard_ok hr g1 g2 g3 (by rw [h1 d (looks_guard g1 g2), g4])]
      cases want <;> rfl
    · exact guard_no hr g1 g2 g3 (by rw [h1 d (looks_guard g1 g2), g4])
  unfold OpWp
  rw [if_neg (by rw [hw]; simp)]
  exact ⟨m, hr.put hd (.c _)⟩

theorem guardK_ok {kn : List (Nat × Bool)} {tm : List AV} {g : Option (Nat × Bool)} {run skip : List (Nat × Bool) → Prop} (hkn : KnOk tm kn) (h : guardK ops kn tm g run skip) :
    (g = none ∧ run kn) ∨ ∃ (j : Nat) (want : Bool) (d : Nat) (kn' : List (Nat × Bool)), g = some (j, want) ∧ dstOf ops j = some d ∧ d < tm.length ∧ KnOk tm kn' ∧ ((tmF tm d = .c (.bool want) ∧ run kn') ∨ ((tmF tm d = .c (.bool (!want)) ∨ ∃ us, tmF tm d = .c (.tuple us)) ∧ skip kn')) := by
  have more : ∀ (d : Nat) (b : Bool), d < tm.length → tmF tm d = .c (.bool b) → KnOk tm ((d, b) :: kn) := fun d b h1 h2 i q hi => by
    rcases List.mem_cons.1 hi with e | hi
    · injection e with e1 e2; subst e1 e2; exact ⟨h1, h2⟩
    · exact hkn i q hi
  cases g with
  | none => exact .inl ⟨rfl, h⟩
  | some p =>
    obtain ⟨j, want⟩ := p
    obtain ⟨d, hd, h⟩ := someK_ok h
    refine .inr ?_
    cases hl : lookN kn d with
    | some b =>
      obtain ⟨q1, q2⟩ := hkn _ _ (lookN_ok hl)
      rw [hl] at h
      refine ⟨j, want, d, kn, rfl, hd, q1, hkn, ?_⟩
      cases b <;> cases want
      · exact .inl ⟨q2, h⟩
      · exact .inr ⟨.inl q2, h⟩
      · exact .inr ⟨.inl q2, h⟩
      · exact .inl ⟨q2, h⟩
    | none =>
      rw [hl] at h
      have aux : ∀ (q : AV → Prop), getK tm d q → ∃ av, d < tm.length ∧ tmF tm d = av ∧ q av := fun q hq => by
        obtain ⟨av, hav, hq⟩ := getK_ok hq
        refine ⟨av, (List.getElem?_eq_some_iff.1 hav).1, ?_, hq⟩
        show tm.getD d .dead = av
        rw [List.getD_eq_getElem?_getD, hav]
        rfl
      cases want
      · obtain ⟨av, h1, h2, h⟩ := aux _ h
        split at h
        · rename_i b
          obtain ⟨g1, g2⟩ := h trivial
          cases b
          · exact ⟨j, false, d, _, rfl, hd, h1, more d false h1 h2, .inl ⟨h2, g1 rfl⟩⟩
          · exact ⟨j, false, d, _, rfl, hd, h1, more d true h1 h2, .inr ⟨.inl h2, g2 rfl⟩⟩
        · exact ⟨j, false, d, kn, rfl, hd, h1, hkn, .inr ⟨.inr ⟨_, h2⟩, h⟩⟩
        · exact h.elim
      · obtain ⟨av, h1, h2, h⟩ := aux _ h
        split at h
        · rename_i b
          obtain ⟨g1, g2⟩ := h trivial
          cases b
          · exact ⟨j, true, d, _, rfl, hd, h1, more d false h1 h2, .inr ⟨.inl h2, g2 rfl⟩⟩
          · exact ⟨j, true, d, _, rfl, hd, h1, more d true h1 h2, .inl ⟨h2, g1 rfl⟩⟩
        · exact ⟨j, true, d, kn, rfl, hd, h1, hkn, .inr ⟨.inr ⟨_, h2⟩, h⟩⟩
        · exact h.elim
theorem vcT_ok : ∀ (os : List Oper) (kn : List (Nat × Bool)) (tm : List AV) (hp : List Ent) (fs : List Foot) (ps : List Prop) (K : List Foot → List AV → List Ent → Prop), KnOk tm kn → vcT C ops os kn tm hp fs ps K →
    ∃ fs' tm' hp', Tr C tm.length ops os (tmF tm) (hpF hp) fs' (tmF tm') (hpF hp') ∧ AllP ps ∧ K (fs.reverse ++ fs') tm' hp' ∧ tm'.length = tm.length
  | [], _, tm, hp, fs, ps, K, _, h => by
    obtain ⟨h1, h2⟩ := allK_ok (h trivial)
    exact ⟨[], tm, hp, ⟨rfl, rfl⟩, h1, by simpa using h2, rfl⟩
  | o :: os, kn0, tm, hp, fs, ps, K, hkn0, h => by
    have fin : ∀ (f : Foot) (q : Prop), (q → TS C tm.length ops o (tmF tm) (hpF hp) f) → ∀ (kn1 : List (Nat × Bool)) (tm1 : List AV) (hp1 : List Ent) (ps' : List Prop), KnOk tm1 kn1 → tm1.length = tm.length → tmF tm1 = putA (tmF tm) o.dst f.x → hpF hp1 = updAll (hpF hp) f.ups → (AllP ps' → q ∧ AllP ps) → vcT C ops os kn1 tm1 hp1 (f :: fs) ps' K →
        ∃ fs' tm' hp', Tr C tm.length ops (o :: os) (tmF tm) (hpF hp) fs' (tmF tm') (hpF hp') ∧ AllP ps ∧ K (fs.reverse ++ fs') tm' hp' ∧ tm'.length = tm.length := by
      intro f q hts kn1 tm1 hp1 ps' hkn1 e1 e2 e3 e4 hv
      obtain ⟨fs', tm', hp', t1, t2, t3, t4⟩ := vcT_ok os kn1 tm1 hp1 (f :: fs) ps' K hkn1 hv
      obtain ⟨hq, hps⟩ := e4 t2
      rw [e1] at t1
      rw [e2, e3] at t1
      exact ⟨f :: fs', tm', hp', ⟨hts hq, t1⟩, hps, by simpa using t3, by rw [t4, e1]⟩
    have run1 : ∀ (kn : List (Nat × Bool)), KnOk tm kn → (o.guard = none ∨ ∃ j d want, o.guard = some (j, want) ∧ dstOf ops j = some d ∧ d < tm.length ∧ tmF tm d = .c (.bool want)) →
        opK C tm hp o (True → ∃ f : Foot, LF C tm.length o (tmF tm) (hpF hp) f ∧ stepK tm hp o.dst f.x f.ups (fun tm' hp' => forceK (rmO kn o.dst) (fun kn' => vcT C ops os kn' tm' hp' (f :: fs) ps K)))
          (fun x ups rb qs => stepK tm hp o.dst x ups (fun tm' hp' => forceK (ps ++ qs) (fun ps' => forceK (rmO kn o.dst) (fun kn' => vcT C ops os kn' tm' hp' (⟨x, ups, rb⟩ :: fs) ps' K)))) →
        ∃ fs' tm' hp', Tr C tm.length ops (o :: os) (tmF tm) (hpF hp) fs' (tmF tm') (hpF hp') ∧ AllP ps ∧ K (fs.reverse ++ fs') tm' hp' ∧ tm'.length = tm.length := by
      intro kn hkn hg hop
      have hany : ∀ n, (InB tm.length o.dst → n = tm.length) → (True → ∃ f : Foot, LF C tm.length o (tmF tm) (hpF hp) f ∧ stepK tm hp o.dst f.x f.ups (fun tm' hp' => forceK (rmO kn o.dst) (fun kn' => vcT C ops os kn' tm' hp' (f :: fs) ps K))) →
          Goal C n tm hp o (fun x ups rb qs => stepK tm hp o.dst x ups (fun tm' hp' => forceK (ps ++ qs) (fun ps' => forceK (rmO kn o.dst) (fun kn' => vcT C ops os kn' tm' hp' (⟨x, ups, rb⟩ :: fs) ps' K)))) := by
        intro n hn hany
        obtain ⟨f, hf, hst⟩ := hany trivial
        have hin := (stepK_ok hst).1
        refine ⟨f.x, f.ups, f.rb, [], stepK_mono hst (fun tm' hp' hv => (forceK_iff _ _).2 ?_), fun _ => ?_⟩
        · rw [List.append_nil]; exact hv
        · rw [hn hin]; exact hf
      by_cases hd : InB tm.length o.dst
      · obtain ⟨x, ups, rb, qs, hk, hlf⟩ := opK_ok (n := tm.length) hd (hany _ (fun _ => rfl)) hop
        obtain ⟨_, tm1, hp1, e1, e2, e3, hv⟩ := stepK_ok hk
        exact fin ⟨x, ups, rb⟩ (AllP qs) (fun hq => ts_run (hlf hq) hg) (rmO kn o.dst) tm1 hp1 (ps ++ qs) (kn_step hkn e1 e2) e1 e2 e3 (fun h => (AllP_append.1 h).symm) (forceK_ok (forceK_ok hv))
      · exfalso
        cases hdd : o.dst with
        | none => rw [hdd] at hd; exact hd trivial
        | some d =>
          obtain ⟨x, ups, rb, qs, hk, _⟩ := opK_ok (n := tm.length + d + 1) (by rw [hdd]; exact Nat.lt_succ_of_le (Nat.le_add_left _ _)) (hany _ (fun hin => absurd hin hd)) hop
          exact hd (stepK_ok hk).1
    have run : ∀ (kn : List (Nat × Bool)), KnOk tm kn → (o.guard = none ∨ ∃ j d want, o.guard = some (j, want) ∧ dstOf ops j = some d ∧ d < tm.length ∧ tmF tm d = .c (.bool want)) →
        pickK kn tm o
          (opK C tm hp o (True → ∃ f : Foot, LF C tm.length o (tmF tm) (hpF hp) f ∧ stepK tm hp o.dst f.x f.ups (fun tm' hp' => forceK (rmO kn o.dst) (fun kn' => vcT C ops os kn' tm' hp' (f :: fs) ps K)))
            (fun x ups rb qs => stepK tm hp o.dst x ups (fun tm' hp' => forceK (ps ++ qs) (fun ps' => forceK (rmO kn o.dst) (fun kn' => vcT C ops os kn' tm' hp' (⟨x, ups, rb⟩ :: fs) ps' K)))))
          (fun z x => stepK tm hp o.dst x [] (fun tm' hp' => forceK (knZ kn o.dst z) (fun kn' => vcT C ops os kn' tm' hp' (⟨x, [], []⟩ :: fs) ps K))) →
        ∃ fs' tm' hp', Tr C tm.length ops (o :: os) (tmF tm) (hpF hp) fs' (tmF tm') (hpF hp') ∧ AllP ps ∧ K (fs.reverse ++ fs') tm' hp' ∧ tm'.length = tm.length := by
      intro kn hkn hg hpk
      have direct : ∀ z : Operand, (InB tm.length o.dst → LF C tm.length o (tmF tm) (hpF hp) ⟨evA (tmF tm) z, [], []⟩) → stepK tm hp o.dst (evA (tmF tm) z) [] (fun tm' hp' => forceK (knZ kn o.dst z) (fun kn' => vcT C ops os kn' tm' hp' (⟨evA (tmF tm) z, [], []⟩ :: fs) ps K)) →
          ∃ fs' tm' hp', Tr C tm.length ops (o :: os) (tmF tm) (hpF hp) fs' (tmF tm') (hpF hp') ∧ AllP ps ∧ K (fs.reverse ++ fs') tm' hp' ∧ tm'.length = tm.length := by
        intro z hlf hst
        obtain ⟨hin, tm1, hp1, e1, e2, e3, hv⟩ := stepK_ok hst
        exact fin ⟨evA (tmF tm) z, [], []⟩ True (fun _ => ts_run (hlf hin) hg) (knZ kn o.dst z) tm1 hp1 ps (knZ_ok hkn hin e1 e2) e1 e2 e3 (fun h => ⟨trivial, h⟩) (forceK_ok hv)
      unfold pickK at hpk
      split at hpk
      · rename_i x ho
        exact direct x (fun hin => lf_pure hin (fun τ' η' g1 _ => by rw [← g1 x (by simp [ho, Op.operands])]; exact p_move (.inl ho))) (by have hq := evK_ok hpk; exact hq)
      · rename_i x ho
        exact direct x (fun hin => lf_pure hin (fun τ' η' g1 _ => by rw [← g1 x (by simp [ho, Op.operands])]; exact p_move (.inr ho))) (by have hq := evK_ok hpk; exact hq)
      · rename_i c x y ho
        split at hpk
        · rename_i hl
          have hc := (hkn _ _ (lookN_ok hl)).2
          refine direct x (fun hin => lf_pure hin (fun τ' η' g1 _ => ?_)) (by have hq := evK_ok hpk; exact hq)
          have := p_pick (C := C) (n := tm.length) (τ := τ') (η := η') (b := true) ho (by rw [g1 (.tmp c) (by simp [ho, Op.operands])]; exact hc)
          rw [← g1 x (by simp [ho, Op.operands])]
          simpa using this
        · rename_i hl
          have hc := (hkn _ _ (lookN_ok hl)).2
          refine direct y (fun hin => lf_pure hin (fun τ' η' g1 _ => ?_)) (by have hq := evK_ok hpk; exact hq)
          have := p_pick (C := C) (n := tm.length) (τ := τ') (η := η') (b := false) ho (by rw [g1 (.tmp c) (by simp [ho, Op.operands])]; exact hc)
          rw [← g1 y (by simp [ho, Op.operands])]
          simpa using this
        · exact run1 kn hkn hg hpk
      · exact run1 kn hkn hg hpk
    have skip : ∀ (kn : List (Nat × Bool)), KnOk tm kn → ∀ (j d : Nat) (want : Bool), o.guard = some (j, want) → dstOf ops j = some d → d < tm.length → (tmF tm d = .c (.bool (!want)) ∨ ∃ us, tmF tm d = .c (.tuple us)) →
        stepK tm hp o.dst (.c (.tuple #[])) [] (fun tm' hp' => forceK (rmO kn o.dst) (fun kn' => vcT C ops os kn' tm' hp' (⟨.c (.tuple #[]), [], []⟩ :: fs) ps K)) →
        ∃ fs' tm' hp', Tr C tm.length ops (o :: os) (tmF tm) (hpF hp) fs' (tmF tm') (hpF hp') ∧ AllP ps ∧ K (fs.reverse ++ fs') tm' hp' ∧ tm'.length = tm.length := by
      intro kn hkn j d want hg hd hlt htd hst
      obtain ⟨hin, tm1, hp1, e1, e2, e3, hv⟩ := stepK_ok hst
      exact fin ⟨.c (.tuple #[]), [], []⟩ True (fun _ => ts_skip hin hg hd hlt htd) (rmO kn o.dst) tm1 hp1 ps (kn_step hkn e1 e2) e1 e2 e3 (fun h => ⟨trivial, h⟩) (forceK_ok hv)
    rw [vcT] at h
    rcases guardK_ok hkn0 h with ⟨hg, h⟩ | ⟨j, want, d, kn, hg, hd, hlt, hkn, ⟨htd, h⟩ | ⟨htd, h⟩⟩
    · exact run kn0 hkn0 (.inl hg) h
    · exact run kn hkn (.inr ⟨j, d, want, hg, hd, hlt, htd⟩) h
    · exact skip kn hkn j d want hg hd hlt htd h
end
end Go.Proofs.YticdfbhbbapbdaaDoor.Am
