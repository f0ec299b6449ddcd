/- stratagemlaw16.DatalogTurned returns true for every input. No condition beyond the card's own. -/
import Derived.Test.YtflgpccacloadaaDoorB5
import Derived.Test.YtflgpccacloadaaDoorCards
import Derived.Test.YtflgpccacloadaaDoorTie
import Derived.Test.YtflgpccacloadaaDoorB1
import Derived.WalkKit
import Derived.ProofKit
import Derived.OpenShut
import Derived.Deep.DeepHandedRow
import Derived.Lib.LaidTab
import Derived.Lib.ItoaNum
set_option linter.unusedVariables false
set_option linter.unusedSectionVars false
set_option linter.unusedSimpArgs false
/- Plain law: DatalogTurned. -/
namespace Go.Proofs.YtflgpccacloadaaDoor.Am
open Go.RowKit
def qv : ByteArray := ⟨#[63, 118]⟩
def lng (s : ByteArray) : ByteArray := if isV s = true then qv ++ s else s
def unl (t : ByteArray) : ByteArray := ofB ((bl t).drop 2)
theorem unl_qv (s : ByteArray) : unl (qv ++ s) = s := by
  unfold unl
  rw [bl_append]
  show ofB (bl s) = s
  exact ofB_bl s
theorem isV_qv (s : ByteArray) : isV (qv ++ s) = true := by
  rw [isV_eq]
  unfold isV'
  rw [bl_append]
  rfl
theorem isV_lng (s : ByteArray) : isV (lng s) = isV s := by
  unfold lng
  cases h : isV s with
  | true => rw [if_pos rfl, isV_qv]
  | false => rw [if_neg (by decide), h]
theorem lng_inj {s t : ByteArray} (h : lng s = lng t) : s = t := by
  have hv : isV s = isV t := by rw [← isV_lng s, ← isV_lng t, h]
  unfold lng at h
  rw [← hv] at h
  cases hs : isV s with
  | true =>
    rw [hs, if_pos rfl, if_pos rfl] at h
    rw [← unl_qv s, h, unl_qv]
  | false => rw [hs, if_neg (by decide), if_neg (by decide)] at h; exact h
theorem longer_eq (s : ByteArray) (h : s.size ≤ 140737488355328) : M_l16_longer s = some (lng s) := by
  unfold M_l16_longer lng
  rw [rvar_eq, ob1_some]
  cases isV s with
  | true =>
    have : (⟨#[63, 118]⟩ : ByteArray).size = 2 := rfl
    exact grd_mk (by omega) rfl
  | false => rfl
def lngA (a : GAtom) : GAtom := ⟨a.Name, a.Args.map lng⟩
def lngP (p : ByteArray × ByteArray) : ByteArray × ByteArray := (lng p.2, lng p.1)
def bwd (r : GRule) : GRule := ⟨lngA r.Head, r.Body.reverse.map lngA, r.Unequal.reverse.map lngP⟩
theorem take_rev {α : Type} {l : List α} {n : Nat} {y : α} (h : l[n]? = some y) : (l.take (n + 1)).reverse = y :: (l.take n).reverse := by
  rw [List.take_add_one, h]
  simp
theorem bwd1 (r : GRule) (hl : r.Head.Args.length ≤ 1000) (hs : ∀ x ∈ r.Head.Args, x.size ≤ 140737488355328) : ∀ (k i : Nat) (out : List ByteArray), r.Head.Args.length + 1 ≤ i + k → i ≤ r.Head.Args.length → out.length = i → M_l16_backward_L1 r k (i : Int) out = some (out ++ (r.Head.Args.drop i).map lng) := by
  intro k
  induction k with
  | zero => intro i out h1 h2; omega
  | succ k ih =>
    intro i out h1 h2 h3
    rw [M_l16_backward_L1]
    by_cases h : i < r.Head.Args.length
    · have hy := List.getElem?_eq_getElem h
      rw [show decide ((i : Int) < ((r.Head.Args.map cS).length : Int)) = true by simp; omega]
      show ix r.Head.Args (i : Int) _ = _
      rw [ix_at hy, longer_eq _ (hs _ (List.getElem_mem h)), ob1_some]
      refine grd_mk (by omega) ?_
      rw [wrap_eq (by omega) (by omega), dropC hy, List.map_cons]
      have := ih (i + 1) (out ++ [lng r.Head.Args[i]]) (by omega) (by omega) (by simp; omega)
      rw [List.append_assoc] at this
      exact this
    · rw [show decide ((i : Int) < ((r.Head.Args.map cS).length : Int)) = false by simp; omega]
      rw [List.drop_of_length_le (by omega)]
      simp [sel]
theorem bwd2 (r : GRule) (v : Nat) (a : GAtom) (ha : r.Body[v]? = some a) (hl : a.Args.length ≤ 1000) (hs : ∀ x ∈ a.Args, x.size ≤ 140737488355328) : ∀ (k i : Nat) (out : List ByteArray), a.Args.length + 1 ≤ i + k → i ≤ a.Args.length → out.length = i → M_l16_backward_L2 r (v : Int) k (i : Int) out = some (out ++ (a.Args.drop i).map lng) := by
  intro k
  induction k with
  | zero => intro i out h1 h2; omega
  | succ k ih =>
    intro i out h1 h2 h3
    rw [M_l16_backward_L2, ix_at ha]
    by_cases h : i < a.Args.length
    · have hy := List.getElem?_eq_getElem h
      rw [show decide ((i : Int) < ((a.Args.map cS).length : Int)) = true by simp; omega]
      show ix r.Body (v : Int) _ = _
      rw [ix_at ha, ix_at hy, longer_eq _ (hs _ (List.getElem_mem h)), ob1_some]
      refine grd_mk (by omega) ?_
      rw [wrap_eq (by omega) (by omega), dropC hy, List.map_cons]
      have := ih (i + 1) (out ++ [lng a.Args[i]]) (by omega) (by omega) (by simp; omega)
      rw [List.append_assoc] at this
      exact this
    · rw [show decide ((i : Int) < ((a.Args.map cS).length : Int)) = false by simp; omega]
      rw [List.drop_of_length_le (by omega)]
      simp [sel]
theorem bwd3 (r : GRule) (g : Nat) (hg : 100000 < g) (hb : r.Body.length ≤ 1000) (hl : ∀ a ∈ r.Body, a.Args.length ≤ 1000 ∧ ∀ x ∈ a.Args, x.size ≤ 140737488355328) : ∀ (k n : Nat) (out : List GAtom), n + 1 ≤ k → n ≤ r.Body.length → out.length + n ≤ 1000 →
    M_l16_backward_L3 r g k ((n : Int) - 1) out = some (out ++ ((r.Body.take n).reverse).map lngA) := by
  intro k
  induction k with
  | zero => intro n out h1 h2; omega
  | succ k ih =>
    intro n out h1 h2 h3
    rw [M_l16_backward_L3]
    match n, h1, h2, h3 with
    | 0, h1, h2, h3 => rw [show decide (((0 : Nat) : Int) - 1 ≥ 0) = false from rfl]; simp [sel]
    | n + 1, h1, h2, h3 =>
      rw [show (((n + 1 : Nat)) : Int) - 1 = (n : Int) by omega, decide_eq_true (show (n : Int) ≥ 0 by omega)]
      have hy := List.getElem?_eq_getElem (show n < r.Body.length by omega)
      obtain ⟨m1, m2⟩ := hl _ (List.getElem_mem (show n < r.Body.length by omega))
      have h5 := bwd2 r n _ hy m1 m2 g 0 [] (by omega) (Nat.zero_le _) rfl
      rw [List.drop_zero, List.nil_append, show ((0 : Nat) : Int) = 0 from rfl] at h5
      show ob1 (ix r.Body (n : Int) _) _ = _
      rw [ix_at hy, h5, ob1_some]
      have hgg : ∀ x : Option (List GAtom), grd ((out.length + 1) * 40 ≤ 140737488355328) (grd ((r.Body[n].Args.map lng).length ≤ 140737488355328) x) = x := fun x => grd_mk (by omega) (grd_mk (by rw [List.length_map]; omega) rfl)
      rw [hgg, ob1_some, wrap_eq (by omega) (by omega), take_rev hy, List.map_cons]
      have := ih n (out ++ [lngA r.Body[n]]) (by omega) (by omega) (by simp; omega)
      rw [List.append_assoc] at this
      exact this
theorem bwd4 (r : GRule) (hd : List ByteArray) (bd : List GAtom) (h1 : hd.length ≤ 1000) (h2 : bd.length ≤ 1000) (hu : r.Unequal.length ≤ 1000) (hl : ∀ p ∈ r.Unequal, p.1.size ≤ 140737488355328 ∧ p.2.size ≤ 140737488355328) : ∀ (k n : Nat) (out : List (ByteArray × ByteArray)), n + 1 ≤ k → n ≤ r.Unequal.length → out.length + n ≤ 1000 →
    M_l16_backward_L4 r hd bd k ((n : Int) - 1) out = some ⟨⟨r.Head.Name, hd⟩, bd, out ++ ((r.Unequal.take n).reverse).map lngP⟩ := by
  intro k
  induction k with
  | zero => intro n out h1 h2; omega
  | succ k ih =>
    intro n out h1 h2 h3
    rw [M_l16_backward_L4]
    match n, h1, h2, h3 with
    | 0, h1, h2, h3 =>
      rw [show decide (((0 : Nat) : Int) - 1 ≥ 0) = false from rfl]
      show grd _ _ = _
      refine grd_mk (by omega) (grd_mk (by omega) (grd_mk (by omega) ?_))
      simp
    | n + 1, h1, h2, h3 =>
      rw [show (((n + 1 : Nat)) : Int) - 1 = (n : Int) by omega, decide_eq_true (show (n : Int) ≥ 0 by omega)]
      have hy := List.getElem?_eq_getElem (show n < r.Unequal.length by omega)
      obtain ⟨m1, m2⟩ := hl _ (List.getElem_mem (show n < r.Unequal.length by omega))
      show ix r.Unequal (n : Int) _ = _
      rw [ix_at hy, longer_eq _ m2, ob1_some, ix_at hy, longer_eq _ m1, ob1_some]
      refine grd_mk (by omega) ?_
      rw [wrap_eq (by omega) (by omega), take_rev hy, List.map_cons]
      have := ih n (out ++ [lngP r.Unequal[n]]) (by omega) (by omega) (by simp; omega)
      rw [List.append_assoc] at this
      exact this
/-- a rule whose strings are of a size -/
structure RStr (r : GRule) : Prop where
  atoms : ∀ a ∈ r.Head :: r.Body, ∀ x ∈ a.Args, x.size ≤ 140737488355328
  un : ∀ p ∈ r.Unequal, p.1.size ≤ 140737488355328 ∧ p.2.size ≤ 140737488355328
theorem bwd_eq (r : GRule) (g : Nat) (hg : 100000 < g) (hs : SmR r) (hr : RStr r) : M_l16_backward g r = some (bwd r) := by
  obtain ⟨b1, b2, b3, b4⟩ := hs
  have hh := (b4 r.Head (List.mem_cons_self ..)).1
  have h1 := bwd1 r (by omega) (hr.atoms _ (List.mem_cons_self ..)) g 0 [] (by omega) (Nat.zero_le _) rfl
  have h2 := bwd3 r g hg (by omega) (fun a ha => ⟨by have := (b4 a (List.mem_cons_of_mem _ ha)).1; omega, hr.atoms a (List.mem_cons_of_mem _ ha)⟩) g r.Body.length [] (by omega) (Nat.le_refl _) (by simp; omega)
  rw [List.drop_zero, List.nil_append, show ((0 : Nat) : Int) = 0 from rfl] at h1
  rw [List.take_length, List.nil_append] at h2
  have h3 := bwd4 r (r.Head.Args.map lng) (r.Body.reverse.map lngA) (by rw [List.length_map]; omega) (by rw [List.length_map, List.length_reverse]; omega) (by omega) hr.un g r.Unequal.length [] (by omega) (Nat.le_refl _) (by simp; omega)
  rw [List.take_length, List.nil_append] at h3
  unfold M_l16_backward
  rw [h1, ob1_some, List.length_map, List.length_map, wrap_eq (by omega) (by omega), h2, ob1_some, wrap_eq (by omega) (by omega), h3]
  rfl
/-- the same variables, under other names -/
theorem vars_mem {body : List GAtom} {s : ByteArray} : s ∈ vars body ↔ isV s = true ∧ ∃ a ∈ body, s ∈ a.Args := by
  have go : ∀ (l out : List ByteArray), s ∈ l.foldl addV out ↔ s ∈ out ∨ isV s = true ∧ s ∈ l := by
    intro l
    induction l with
    | nil => intro out; simp
    | cons t r ih =>
      intro out
      rw [List.foldl_cons, ih, List.mem_cons]
      unfold addV
      cases hv : isV t with
      | false =>
        rw [if_neg (by decide)]
        constructor
        · rintro (h | ⟨h, h'⟩)
          · exact .inl h
          · exact .inr ⟨h, .inr h'⟩
        · rintro (h | ⟨h, h' | h'⟩)
          · exact .inl h
          · rw [h', hv] at h; cases h
          · exact .inr ⟨h, h'⟩
      | true =>
        rw [if_pos rfl]
        by_cases e : t ∈ out
        · rw [if_pos e]
          constructor
          · rintro (h | ⟨h, h'⟩)
            · exact .inl h
            · exact .inr ⟨h, .inr h'⟩
          · rintro (h | ⟨h, h' | h'⟩)
            · exact .inl h
            · exact .inl (h' ▸ e)
            · exact .inr ⟨h, h'⟩
        · rw [if_neg e, List.mem_append, List.mem_singleton]
          constructor
          · rintro ((h | h) | ⟨h, h'⟩)
            · exact .inl h
            · exact .inr ⟨h ▸ hv, .inl h⟩
            · exact .inr ⟨h, .inr h'⟩
          · rintro (h | ⟨h, h' | h'⟩)
            · exact .inl (.inl h)
            · exact .inl (.inr h')
            · exact .inr ⟨h, h'⟩
  unfold vars
  rw [go]
  simp [List.mem_flatMap]
theorem mem_bwd_body {r : GRule} {a : GAtom} : a ∈ (bwd r).Body ↔ ∃ x ∈ r.Body, a = lngA x := by
  unfold bwd
  simp only [List.mem_map, List.mem_reverse]
  exact ⟨fun ⟨x, h, e⟩ => ⟨x, h, e.symm⟩, fun ⟨x, h, e⟩ => ⟨x, h, e.symm⟩⟩
theorem vars_bwd {r : GRule} {s : ByteArray} : lng s ∈ vars (bwd r).Body ↔ s ∈ vars r.Body := by
  rw [vars_mem, vars_mem, isV_lng]
  refine and_congr_right fun _ => ⟨?_, ?_⟩
  · rintro ⟨a, ha, hs⟩
    obtain ⟨x, hx, rfl⟩ := mem_bwd_body.1 ha
    obtain ⟨t, ht, e⟩ := List.mem_map.1 hs
    exact ⟨x, hx, by rw [← lng_inj e]; exact ht⟩
  · rintro ⟨x, hx, hs⟩
    exact ⟨lngA x, mem_bwd_body.2 ⟨x, hx, rfl⟩, List.mem_map.2 ⟨s, hs, rfl⟩⟩
theorem vars_bwd_all {r : GRule} {t : ByteArray} (h : t ∈ vars (bwd r).Body) : ∃ s ∈ vars r.Body, t = lng s := by
  obtain ⟨hv, a, ha, hs⟩ := vars_mem.1 h
  obtain ⟨x, hx, rfl⟩ := mem_bwd_body.1 ha
  obtain ⟨s, hs2, rfl⟩ := List.mem_map.1 hs
  exact ⟨s, vars_mem.2 ⟨by rw [← isV_lng]; exact hv, x, hx, hs2⟩, rfl⟩
theorem lng_nodup {l : List ByteArray} (h : l.Nodup) : (l.map lng).Nodup := List.pairwise_map.2 (h.imp (fun {a b} hab e => hab (lng_inj e)))
theorem vars_bwd_len (r : GRule) : (vars (bwd r).Body).length = (vars r.Body).length := by
  have h1 := nodup_sub (b := (vars r.Body).map lng) (vars_ok (bwd r).Body).1 (fun t ht => by
    obtain ⟨s, hs, rfl⟩ := vars_bwd_all ht
    exact List.mem_map.2 ⟨s, hs, rfl⟩)
  have h2 := nodup_sub (b := vars (bwd r).Body) (lng_nodup (vars_ok r.Body).1) (fun t ht => by
    obtain ⟨s, hs, rfl⟩ := List.mem_map.1 ht
    exact vars_bwd.2 hs)
  rw [List.length_map] at h1 h2
  omega
theorem any_map {α β : Type} {l : List α} {l' : List β} {p : α → Bool} {q : β → Bool} (h1 : ∀ x ∈ l, ∃ y ∈ l', q y = p x) (h2 : ∀ y ∈ l', ∃ x ∈ l, p x = q y) : l.any p = l'.any q := by
  cases h : l.any p with
  | true =>
    obtain ⟨x, hx, hp⟩ := List.any_eq_true.1 h
    obtain ⟨y, hy, e⟩ := h1 x hx
    exact (List.any_eq_true.2 ⟨y, hy, by rw [e, hp]⟩).symm
  | false =>
    cases h' : l'.any q with
    | false => rfl
    | true =>
      obtain ⟨y, hy, hq⟩ := List.any_eq_true.1 h'
      obtain ⟨x, hx, e⟩ := h2 y hy
      have : l.any p = true := List.any_eq_true.2 ⟨x, hx, e.trans hq⟩
      rw [h] at this; cases this
theorem terms_bwd {r : GRule} {t : ByteArray} : t ∈ terms (bwd r) ↔ ∃ s ∈ terms r, t = lng s := by
  unfold terms
  simp only [List.mem_append, List.mem_flatMap]
  constructor
  · rintro (h | ⟨p, hp, h⟩)
    · obtain ⟨s, hs, rfl⟩ := List.mem_map.1 h
      exact ⟨s, .inl hs, rfl⟩
    · obtain ⟨q, hq, rfl⟩ := List.mem_map.1 hp
      rw [List.mem_reverse] at hq
      simp only [lngP, List.mem_cons, List.not_mem_nil, or_false] at h
      rcases h with rfl | rfl
      · exact ⟨q.2, .inr ⟨q, hq, by simp⟩, rfl⟩
      · exact ⟨q.1, .inr ⟨q, hq, by simp⟩, rfl⟩
  · rintro ⟨s, h | ⟨q, hq, h⟩, rfl⟩
    · exact .inl (List.mem_map.2 ⟨s, h, rfl⟩)
    · refine .inr ⟨lngP q, List.mem_map.2 ⟨q, List.mem_reverse.2 hq, rfl⟩, ?_⟩
      simp only [List.mem_cons, List.not_mem_nil, or_false] at h
      rcases h with rfl | rfl
      · simp [lngP]
      · simp [lngP]
theorem ckR_bwd (r : GRule) : ckR (bwd r) = ckR r := by
  unfold ckR
  have e1 : (terms (bwd r)).any (badT (vars (bwd r).Body)) = (terms r).any (badT (vars r.Body)) := by
    have key : ∀ s, badT (vars r.Body) s = badT (vars (bwd r).Body) (lng s) := fun s => by
      unfold badT
      rw [isV_lng, decide_eq_decide.2 (vars_bwd (r := r) (s := s))]
    refine any_map (fun t ht => ?_) (fun s hs => ⟨lng s, terms_bwd.2 ⟨s, hs, rfl⟩, (key s).symm⟩)
    obtain ⟨s, hs, rfl⟩ := terms_bwd.1 ht
    exact ⟨s, hs, key s⟩
  have e2 : (bwd r).Body.length = r.Body.length := by simp [bwd]
  have e3 : ∀ p : GAtom → Bool, (∀ a, p (lngA a) = p a) → ((bwd r).Head :: (bwd r).Body).any p = (r.Head :: r.Body).any p := fun p hp => by
    refine any_map (fun a ha => ?_) (fun a ha => ?_)
    · rcases List.mem_cons.1 ha with e | e
      · exact ⟨r.Head, List.mem_cons_self .., by rw [e]; exact (hp _).symm⟩
      · obtain ⟨x, hx, rfl⟩ := mem_bwd_body.1 e
        exact ⟨x, List.mem_cons_of_mem _ hx, (hp _).symm⟩
    · rcases List.mem_cons.1 ha with e | e
      · exact ⟨(bwd r).Head, List.mem_cons_self .., by rw [e]; exact hp _⟩
      · exact ⟨lngA a, List.mem_cons_of_mem _ (mem_bwd_body.2 ⟨a, e, rfl⟩), hp _⟩
  rw [e1, e2, e3 longA (fun a => by simp [longA, lngA]), e3 namA (fun a => rfl)]
def turn (p : GProgram) : GProgram := ⟨p.Facts.reverse, p.Rules.reverse.map bwd⟩
theorem mem_turn_rule {p : GProgram} {r : GRule} : r ∈ (turn p).Rules ↔ ∃ q ∈ p.Rules, r = bwd q := by
  unfold turn
  simp only [List.mem_map, List.mem_reverse]
  exact ⟨fun ⟨x, h, e⟩ => ⟨x, h, e.symm⟩, fun ⟨x, h, e⟩ => ⟨x, h, e.symm⟩⟩
theorem mem_turn_fact {p : GProgram} {a : GAtom} : a ∈ (turn p).Facts ↔ a ∈ p.Facts := List.mem_reverse
theorem smR_bwd {r : GRule} (h : SmR r) : SmR (bwd r) := by
  obtain ⟨b1, b2, b3, b4⟩ := h
  have e2 : (bwd r).Body.length = r.Body.length := by simp [bwd]
  refine ⟨by rw [e2]; exact b1, by rw [e2]; exact b2, by simpa [bwd] using b3, fun a ha => ?_⟩
  have key : ∀ x ∈ r.Head :: r.Body, (lngA x).Args.length ≤ 8 ∧ (lngA x).Name.size ≤ 100 := fun x hx => by
    have := b4 x hx
    simpa [lngA] using this
  rcases List.mem_cons.1 ha with e | e
  · rw [e]; exact key r.Head (List.mem_cons_self ..)
  · obtain ⟨x, hx, rfl⟩ := mem_bwd_body.1 e
    exact key x (List.mem_cons_of_mem _ hx)
theorem lng_const {s : ByteArray} (h : isV s = false) : lng s = s := by unfold lng; rw [h, if_neg (by decide)]
theorem turn_const {p : GProgram} {x : ByteArray} : x ∈ consts (allA (turn p)) ↔ x ∈ consts (allA p) := by
  unfold consts
  rw [addC_mem, addC_mem]
  simp only [List.not_mem_nil, false_or, List.mem_flatMap]
  refine and_congr_left fun hv => ⟨?_, ?_⟩
  · rintro ⟨a, ha, hx⟩
    rcases List.mem_append.1 ha with e | e
    · exact ⟨a, mem_fact (mem_turn_fact.1 e), hx⟩
    · obtain ⟨r, hr, e⟩ := List.mem_flatMap.1 e
      obtain ⟨q, hq, rfl⟩ := mem_turn_rule.1 hr
      have key : ∀ b ∈ q.Head :: q.Body, x ∈ (lngA b).Args → ∃ a ∈ allA p, x ∈ a.Args := fun b hb hx => by
        obtain ⟨y, hy, rfl⟩ := List.mem_map.1 hx
        rw [isV_lng] at hv
        rw [lng_const hv]
        exact ⟨b, mem_rule hq hb, hy⟩
      rcases List.mem_cons.1 e with e | e
      · rw [e] at hx; exact key q.Head (List.mem_cons_self ..) hx
      · obtain ⟨b, hb, rfl⟩ := mem_bwd_body.1 e
        exact key b (List.mem_cons_of_mem _ hb) hx
  · rintro ⟨a, ha, hx⟩
    rcases List.mem_append.1 ha with e | e
    · exact ⟨a, mem_fact (mem_turn_fact.2 e), hx⟩
    · obtain ⟨q, hq, e⟩ := List.mem_flatMap.1 e
      have hx' : x ∈ (lngA a).Args := List.mem_map.2 ⟨x, hx, lng_const hv⟩
      refine ⟨lngA a, mem_rule (mem_turn_rule.2 ⟨q, hq, rfl⟩) ?_, hx'⟩
      rcases List.mem_cons.1 e with e | e
      · rw [e]; exact List.mem_cons_self ..
      · exact List.mem_cons_of_mem _ (mem_bwd_body.2 ⟨a, e, rfl⟩)
theorem sum_rev {α : Type} (f : α → Nat) : ∀ l : List α, (l.reverse.map f).sum = (l.map f).sum
  | [] => rfl
  | x :: r => by rw [List.reverse_cons, List.map_append, List.sum_append, sum_rev f r, List.map_cons, List.sum_cons]; simp; omega
theorem consts_nodup (l : List GAtom) : (consts l).Nodup := addC_nodup _ [] List.nodup_nil
theorem turn_good {p : GProgram} (hp : Good p) : Good (turn p) := by
  have hc : (consts (allA (turn p))).length = (consts (allA p)).length := by
    have h1 := nodup_sub (b := consts (allA p)) (consts_nodup (allA (turn p))) (fun x hx => turn_const.1 hx)
    have h2 := nodup_sub (b := consts (allA (turn p))) (consts_nodup (allA p)) (fun x hx => turn_const.2 hx)
    exact Nat.le_antisymm h1 h2
  obtain ⟨s1, s2, s3, s4, s5, s6⟩ := hp.sm
  refine ⟨⟨by simpa [turn] using s1, by simpa [turn] using s2, fun a ha => s3 a (mem_turn_fact.1 ha), fun r hr => ?_, fun r hr => ?_, ?_⟩, fun a ha x hx hv => ?_⟩
  · obtain ⟨q, hq, rfl⟩ := mem_turn_rule.1 hr
    exact smR_bwd (s4 q hq)
  · obtain ⟨q, hq, rfl⟩ := mem_turn_rule.1 hr
    rw [hc, vars_bwd_len]
    exact s5 q hq
  · rw [hc]
    have e : (turn p).Rules.map (fun r => (consts (allA p)).length ^ min r.Head.Args.length (vars r.Body).length) = p.Rules.reverse.map (fun r => (consts (allA p)).length ^ min r.Head.Args.length (vars r.Body).length) := by
      show (p.Rules.reverse.map bwd).map _ = _
      rw [List.map_map]
      refine List.map_congr_left fun r _ => ?_
      show _ ^ min (r.Head.Args.map lng).length (vars (bwd r).Body).length = _
      rw [vars_bwd_len, List.length_map]
    rw [e, sum_rev]
    exact s6
  · have hm : x ∈ consts (allA (turn p)) := (addC_mem _ _ _).2 (.inr ⟨List.mem_flatMap.2 ⟨a, ha, hx⟩, hv⟩)
    exact CC_size hp (turn_const.1 hm)
theorem trm_lng (σ : Asg) (s : ByteArray) : trm σ (lng s) = trm (fun s => σ (lng s)) s := by
  unfold trm
  rw [isV_lng]
  cases h : isV s with
  | true => rfl
  | false => rw [if_neg (by decide), if_neg (by decide), lng_const h]
theorem inst_lng (σ : Asg) (a : GAtom) : inst σ (lngA a) = inst (fun s => σ (lng s)) a := by
  unfold inst lngA
  rw [List.map_map]
  congr 1
  exact List.map_congr_left fun s _ => trm_lng σ s
theorem der_turn {p : GProgram} {z : GAtom} : Der (turn p).Facts (turn p).Rules z ↔ Der p.Facts p.Rules z := by
  constructor
  · intro h
    induction h with
    | fact h => exact .fact (mem_turn_fact.1 h)
    | @rule r σ hr _ hu ih =>
      obtain ⟨q, hq, rfl⟩ := mem_turn_rule.1 hr
      have : inst σ (bwd q).Head = inst (fun s => σ (lng s)) q.Head := inst_lng σ q.Head
      rw [this]
      refine .rule hq (fun a ha => ?_) (fun u hu2 => ?_)
      · rw [← inst_lng]; exact ih _ (mem_bwd_body.2 ⟨a, ha, rfl⟩)
      · have h2 := hu (lngP u) (List.mem_map.2 ⟨u, List.mem_reverse.2 hu2, rfl⟩)
        simp only [lngP] at h2
        rw [trm_lng, trm_lng] at h2
        exact fun e => h2 e.symm
  · intro h
    induction h with
    | fact h => exact .fact (mem_turn_fact.2 h)
    | @rule r σ hr _ hu ih =>
      have key : ∀ s, trm (fun t => σ (unl t)) (lng s) = trm σ s := fun s => by
        rw [trm_lng]
        unfold trm
        cases hv : isV s with
        | true =>
          rw [if_pos rfl, if_pos rfl]
          show σ (unl (lng s)) = σ s
          unfold lng
          rw [hv, if_pos rfl, unl_qv]
        | false => rfl
      have ki : ∀ a, inst (fun t => σ (unl t)) (lngA a) = inst σ a := fun a => by
        unfold inst lngA
        rw [List.map_map]
        congr 1
        exact List.map_congr_left fun s _ => key s
      have hh : inst σ r.Head = inst (fun t => σ (unl t)) (bwd r).Head := (ki r.Head).symm
      rw [hh]
      refine .rule (mem_turn_rule.2 ⟨r, hr, rfl⟩) (fun a ha => ?_) (fun u hu2 => ?_)
      · obtain ⟨x, hx, rfl⟩ := mem_bwd_body.1 ha
        rw [ki]; exact ih x hx
      · obtain ⟨v, hv, rfl⟩ := List.mem_map.1 hu2
        have h2 := hu v (List.mem_reverse.1 hv)
        show trm _ (lng v.2) ≠ trm _ (lng v.1)
        rw [key, key]
        exact fun e => h2 e.symm
theorem wrong_turn (p : GProgram) : wrongE (turn p).Facts (turn p).Rules = .nil ↔ wrongE p.Facts p.Rules = .nil := by
  have hf : (turn p).Facts.any badF = p.Facts.any badF := any_map (fun a ha => ⟨a, mem_turn_fact.1 ha, rfl⟩) (fun a ha => ⟨a, mem_turn_fact.2 ha, rfl⟩)
  have hr : firstE (turn p).Rules = .nil ↔ firstE p.Rules = .nil := by
    constructor
    · intro h
      refine firstE_of (fun r hr => ?_)
      rw [← ckR_bwd r]
      exact firstE_all h _ (mem_turn_rule.2 ⟨r, hr, rfl⟩)
    · intro h
      refine firstE_of (fun r hr => ?_)
      obtain ⟨q, hq, rfl⟩ := mem_turn_rule.1 hr
      rw [ckR_bwd]
      exact firstE_all h q hq
  unfold wrongE
  rw [hf]
  cases h1 : firstE (turn p).Rules with
  | nil => rw [hr.1 h1]
  | no e =>
    cases h2 : firstE p.Rules with
    | nil => rw [hr.2 h2] at h1; cases h1
    | no e' => simp
theorem trn1 (p : GProgram) (hl : p.Facts.length ≤ 30) : ∀ (k n : Nat) (out : List GAtom), n + 1 ≤ k → n ≤ p.Facts.length → out.length + n ≤ 30 →
    M_l16_DatalogTurned_L1 p k ((n : Int) - 1) out = some (out ++ (p.Facts.take n).reverse) := by
  intro k
  induction k with
  | zero => intro n out h1 h2; omega
  | succ k ih =>
    intro n out h1 h2 h3
    rw [M_l16_DatalogTurned_L1]
    match n, h1, h2, h3 with
    | 0, h1, h2, h3 => rw [show decide (((0 : Nat) : Int) - 1 ≥ 0) = false from rfl]; simp [sel]
    | n + 1, h1, h2, h3 =>
      rw [show (((n + 1 : Nat)) : Int) - 1 = (n : Int) by omega, decide_eq_true (show (n : Int) ≥ 0 by omega)]
      have hy := List.getElem?_eq_getElem (show n < p.Facts.length by omega)
      show ix p.Facts (n : Int) _ = _
      rw [ix_at hy]
      refine grd_mk (by omega) ?_
      rw [wrap_eq (by omega) (by omega), take_rev hy]
      have := ih n (out ++ [p.Facts[n]]) (by omega) (by omega) (by simp; omega)
      rw [List.append_assoc] at this
      exact this
theorem trn2 (p : GProgram) (g : Nat) (hg : 100000 < g) (hl : p.Rules.length ≤ 8) (hs : ∀ r ∈ p.Rules, SmR r ∧ RStr r) : ∀ (k n : Nat) (out : List GRule), n + 1 ≤ k → n ≤ p.Rules.length → out.length + n ≤ 8 →
    M_l16_DatalogTurned_L2 p g k ((n : Int) - 1) out = some (out ++ ((p.Rules.take n).reverse).map bwd) := by
  intro k
  induction k with
  | zero => intro n out h1 h2; omega
  | succ k ih =>
    intro n out h1 h2 h3
    rw [M_l16_DatalogTurned_L2]
    match n, h1, h2, h3 with
    | 0, h1, h2, h3 => rw [show decide (((0 : Nat) : Int) - 1 ≥ 0) = false from rfl]; simp [sel]
    | n + 1, h1, h2, h3 =>
      rw [show (((n + 1 : Nat)) : Int) - 1 = (n : Int) by omega, decide_eq_true (show (n : Int) ≥ 0 by omega)]
      have hy := List.getElem?_eq_getElem (show n < p.Rules.length by omega)
      obtain ⟨m1, m2⟩ := hs _ (List.getElem_mem (show n < p.Rules.length by omega))
      show ix p.Rules (n : Int) _ = _
      rw [ix_at hy, bwd_eq _ g hg m1 m2, ob1_some]
      refine grd_mk (by omega) ?_
      rw [wrap_eq (by omega) (by omega), take_rev hy, List.map_cons]
      have := ih n (out ++ [bwd p.Rules[n]]) (by omega) (by omega) (by simp; omega)
      rw [List.append_assoc] at this
      exact this
theorem turned_true (p : GProgram) (h : PrgOk p) (hs : ∀ r ∈ p.Rules, RStr r) : M_l16_DatalogTurned GG p = some true := by
  obtain ⟨b, h1, h2⟩ := large_ok h
  obtain ⟨g, hgg⟩ : ∃ g, g = GG := ⟨GG, rfl⟩
  have hg1 : 1000000000000 < g := by rw [hgg]; decide
  rw [← hgg] at h1 ⊢
  clear hgg
  unfold M_l16_DatalogTurned
  rw [h1, ob1_some, awake16 g (by omega)]
  cases b with
  | true => rfl
  | false =>
    have hp := h2 rfl
    have hfl := hp.sm.facts
    have hrl := hp.sm.rules
    have ht := turn_good hp
    have e1 := trn1 p hfl g p.Facts.length [] (by omega) (Nat.le_refl _) (by simp; omega)
    have e2 := trn2 p g (by omega) hrl (fun r hr => ⟨hp.sm.rule r hr, hs r hr⟩) g p.Rules.length [] (by omega) (Nat.le_refl _) (by simp; omega)
    rw [List.take_length, List.nil_append] at e1 e2
    show ob1 (M_l16_DatalogTurned_L1 p g _ []) _ = _
    rw [List.length_map, wrap_eq (by omega) (by omega), e1, ob1_some, List.length_map, wrap_eq (by omega) (by omega), e2, ob1_some, solve_good hp g (by omega), ob2_some]
    refine grd_mk (by simp; omega) (grd_mk (by simp; omega) ?_)
    have hst := solve_good ht g (by omega)
    rw [show p.Facts.reverse = (turn p).Facts from rfl, show p.Rules.reverse.map bwd = (turn p).Rules from rfl, hst, ob2_some]
    cases hw : wrongE p.Facts p.Rules with
    | no e =>
      have hw' : wrongE (turn p).Facts (turn p).Rules ≠ .nil := fun q => by rw [(wrong_turn p).1 q] at hw; cases hw
      cases hw2 : wrongE (turn p).Facts (turn p).Rules with
      | nil => exact absurd hw2 hw'
      | no e' =>
        rw [solve_wrong hp g hw, solve_wrong ht g hw2]
        show ob1 (M_r10_SameAtoms g [] []) _ = _
        rw [sameAtoms_eq g [] (by simp) (fun a ha => by cases ha) (by simp; omega), ob1_some]
    | nil =>
      have hw2 := (wrong_turn p).2 hw
      obtain ⟨A, a1, a2, a3, _, a5⟩ := solve_der hp g (by omega) hw
      obtain ⟨B, b1, b2, b3, _, b5⟩ := solve_der ht g (by omega) hw2
      have : B = A := strA_unique b2.str a2.str (fun z => by rw [b5, a5]; exact der_turn)
      rw [a1, b1, this]
      show ob1 (M_r10_SameAtoms g A A) _ = _
      rw [sameAtoms_eq g A (by omega) (few8 (by omega) (fun a ha => (a2.sml a ha).1)) (by omega), ob1_some]
end Go.Proofs.YtflgpccacloadaaDoor.Am
/- What the listed package-level variables hold, as cells, for the witness. -/
namespace Go.Proofs.YtflgpccacloadaaDoor
open Go.ChangeShapes Go.WideShapes Go.ChangeAt Go.RowKit
theorem own : ownKnob Tryd.prog.godebug = none := by kernel_rfl
theorem laidOut : laidOutB Tryd.prog = true := by kernel_rfl
def tab32 : Array Value := #[.int .u8 0, .int .u8 1, .int .u8 28, .int .u8 2, .int .u8 29, .int .u8 14, .int .u8 24, .int .u8 3, .int .u8 30, .int .u8 22, .int .u8 20, .int .u8 15, .int .u8 25, .int .u8 17, .int .u8 4, .int .u8 8, .int .u8 31, .int .u8 27, .int .u8 13, .int .u8 23, .int .u8 21, .int .u8 19, .int .u8 16, .int .u8 7, .int .u8 26, .int .u8 12, .int .u8 18, .int .u8 6, .int .u8 11, .int .u8 5, .int .u8 10, .int .u8 9]
def tab64 : Array Value := #[.int .u8 0, .int .u8 1, .int .u8 56, .int .u8 2, .int .u8 57, .int .u8 49, .int .u8 28, .int .u8 3, .int .u8 61, .int .u8 58, .int .u8 42, .int .u8 50, .int .u8 38, .int .u8 29, .int .u8 17, .int .u8 4, .int .u8 62, .int .u8 47, .int .u8 59, .int .u8 36, .int .u8 45, .int .u8 43, .int .u8 51, .int .u8 22, .int .u8 53, .int .u8 39, .int .u8 33, .int .u8 30, .int .u8 24, .int .u8 18, .int .u8 12, .int .u8 5, .int .u8 63, .int .u8 55, .int .u8 48, .int .u8 27, .int .u8 60, .int .u8 41, .int .u8 37, .int .u8 16, .int .u8 46, .int .u8 35, .int .u8 44, .int .u8 21, .int .u8 52, .int .u8 32, .int .u8 23, .int .u8 11, .int .u8 54, .int .u8 26, .int .u8 40, .int .u8 15, .int .u8 34, .int .u8 20, .int .u8 31, .int .u8 10, .int .u8 25, .int .u8 14, .int .u8 19, .int .u8 9, .int .u8 13, .int .u8 8, .int .u8 7, .int .u8 6]
def tabPow : Array Value := #[.int .u64 1, .int .u64 10, .int .u64 100, .int .u64 1000, .int .u64 10000, .int .u64 100000, .int .u64 1000000, .int .u64 10000000, .int .u64 100000000, .int .u64 1000000000, .int .u64 10000000000, .int .u64 100000000000, .int .u64 1000000000000, .int .u64 10000000000000, .int .u64 100000000000000, .int .u64 1000000000000000, .int .u64 10000000000000000, .int .u64 100000000000000000, .int .u64 1000000000000000000, .int .u64 10000000000000000000]

def putCells (cs : Array Value) : Obj → Obj
  | .cells _ t frozen => .cells cs t frozen
  | o => o
/-- A world for the witnesses: the settled one, the tables holding what their initialisers lay. -/
noncomputable def laidWorld (os : Os) : World :=
  { World.holding Tryd.prog os ⟨#[], #[], []⟩ with heap := (((World.holding Tryd.prog os ⟨#[], #[], []⟩).heap.modify 0 (putCells tabPow)).modify 1 (putCells tab32)).modify 2 (putCells tab64) }
end Go.Proofs.YtflgpccacloadaaDoor
/- stratagemlaw16.DatalogTurned returns true for every input. No condition beyond the card's own. -/
namespace Go.Proofs.YtflgpccacloadaaDoor.rowTurned
open Go.ChangeShapes Go.WideShapes Go.ChangeAt Go.RowKit Am

theorem rStr_of {r : GRule} (h : zR r) : RStr r := ⟨fun a ha => by
  rcases List.mem_cons.1 ha with e | e
  · rw [e]; exact h.1
  · exact h.2.1 a e, h.2.2⟩

theorem table {W : World} (h : laidMetH Tryd.prog Rows.datalogTurnedRow.laid W) : TabOk W := by
  obtain ⟨ps, ⟨_, _, _, _, _, _, _, _, _, _, ⟨_, _, _, _, _, _, _, _, _, _, hr, _⟩, _⟩, _⟩ := h
  obtain ⟨g', t', cs, fuel, p, q, hg', ht', hvar, hd, _, _⟩ := hr
  obtain rfl := Option.some.inj (gPow.symm.trans hg')
  obtain rfl := Option.some.inj ((show (Tryd.prog.globals[0]?).map (·.type) = some 152 by kernel_rfl).symm.trans ht')
  unfold TabOk Lib.TabIs
  rw [hvar, ← Lib.cells_of_tab (zs := Lib.pow10Tab) Tryd.underlying152 Tryd.underlying134 (by kernel_rfl) (by kernel_rfl) hd]
set_option maxRecDepth 100000 in
theorem contract (H : Type) (enc : TypeId × Value → H) (W : World) (base : Nat) (args : Array Value) (ds gs : List (DataW H)) (before : List MemPlace)
    (hval : ∀ (j : Nat) t v, Tryd.f7.params[j]? = some t → args[j]? = some v → Value.okWide Tryd.prog W .any base t v)
    (hW : DataW.Whole enc Tryd.prog Tryd.f7.params.toList Rows.datalogTurnedSpec.vars false W args.toList ds gs before) (hL : laidMetH Tryd.prog Rows.datalogTurnedRow.laid W)
    (hsz : (DataW.weightsEach Tryd.prog (Tryd.f7.params.toList ++ (OpenSpec.ofChange Rows.datalogTurnedSpec).bare.plain.varTypes Tryd.prog) (ds ++ gs)).all (· ≤ reachBytes) = true) :
    Calls Tryd.prog 7 args W fun e W' => ∃ v, e = .returned v ∧ Rows.datalogTurnedSpec.post enc Tryd.prog Tryd.f7 false true false false W args v W' := by
  have hW' := hW
  obtain ⟨p, q, hA0, hV, rfl, hfz, hnd⟩ := hW
  have hA : DataW.TrodAll enc Tryd.prog W 0 (fun _ => true) true Tryd.f7.params.toList args.toList ds p := hA0
  rw [Tryd.params7] at hA hval
  obtain ⟨v0, vs0, d0, ds0, p0, q0, hargs, rfl, rfl, h0, r0⟩ := trodAll_cons hA
  obtain ⟨rfl, rfl, rfl⟩ := trodAll_nil r0
  obtain rfl : args = #[v0] := Array.ext' hargs
  obtain ⟨rfl, rfl⟩ := trodVars_none hV
  simp only [List.append_nil] at hW' hA0 hsz
  rw [Tryd.params7] at hsz
  obtain ⟨p, hb, _, k0⟩ := arg_structB Tryd.underlying38 (hval 0 38 v0 rfl rfl) zProg h0 (sized_arg hsz (j := 0) rfl rfl)
  refine (law_of (A_l16_DatalogTurned GG p (turned_true p (prgOk_of hb.1 hb.2) (fun r hr => rStr_of (hb.2.2 r hr)))) ⟨table hL, trivial⟩ rfl (fun j x v hx hv => ?_)).mono fun e W' ⟨he, hb⟩ => ?_
  · match j, hx, hv with
    | 0, hx, hv => simp at hx hv; subst hx hv; exact k0
    | j + 1, hx, hv => simp at hx
  · subst he
    exact ⟨_, rfl, law_post laidOut rfl (by kernel_rfl) Tryd.underlying4 (by kernel_rfl) hW' hA0 rfl rfl rfl hb⟩
theorem laid_met (os : Os) : laidMet Tryd.prog Rows.datalogTurnedRow.laid ((laidWorld os).forCall (fun _ _ => 0) ⟨#[], #[.agg #[.slice none 0 0, .slice none 0 0]], []⟩).memory :=
  laidMet_of_run' 8 (by kernel_rfl) (by kernel_rfl)
theorem reads (os : Os) {H : Type} (enc : TypeId × Value → H) : ∃ places, DataW.whole enc Tryd.prog ((laidWorld os).forCall (fun _ _ => 0) ⟨#[], #[.agg #[.slice none 0 0, .slice none 0 0]], []⟩).memory Tryd.f7.params.toList Rows.datalogTurnedSpec.vars false (#[.agg #[.slice none 0 0, .slice none 0 0]] : Array Value).toList 8 = some ([.agg [.nil, .nil]], [], places) :=
  ⟨[], by kernel_rfl⟩

set_option maxRecDepth 100000 in
theorem lifted (os : Os) (started : os.Started) (H : Type) (enc : TypeId × Value → H) (F : Stop.Interp) :
    ReturnsInHanded {} Tryd.checked os 7 .any ((OpenSpec.ofChange Rows.datalogTurnedSpec).preRow enc Tryd.prog Tryd.f7 Rows.datalogTurnedRow.domain false Rows.datalogTurnedRow.laid) (((OpenSpec.ofChange Rows.datalogTurnedSpec).at F).post enc Tryd.prog Tryd.f7 false true false false) := by
  obtain ⟨places, hx⟩ := reads os enc
  refine returnsInHanded_of_row (C := Tryd.checked) (s := OpenSpec.ofChange Rows.datalogTurnedSpec) own started (by kernel_rfl) Tryd.func7
    (witness_row_at (enc := enc) (C := Tryd.checked) false (laidWorld os) #[.agg #[.slice none 0 0, .slice none 0 0]] rfl (by kernel_rfl) (by kernel_rfl) (by kernel_rfl)
      (OpenSpec.preRow_of_cond 8 hx (by kernel_rfl) (fun k hk => by cases hk) (by kernel_rfl) (laid_met os))) ?_
  intro W base args ds gs before hval hW _ _ hsz hL _ _
  exact contract H enc W base args ds gs before hval hW hL hsz

theorem said : Rows.DatalogTurnedSaid :=
  OpenClaim.holds_of_cond 7 Tryd.f7 rfl rfl rfl rfl rfl rfl rfl ⟨rfl, rfl, rfl, rfl, rfl⟩ rfl rfl rfl rfl rfl (by kernel_rfl) Tryd.func7 (by kernel_rfl)
    (of_decide_eq_true (by kernel_rfl)) (by unfold Func.isWrapper; first | (rw [if_pos (by decide +kernel)]; kernel_rfl) | (rw [if_neg (by decide +kernel)]; exact ⟨rfl, rfl⟩))
    (fun os started H enc _ F => by rw [OpenClaim.pre_eq_preRow]; exact lifted os started H enc F)

theorem plain (f : FuncId) (fn : Func) (hf : Tryd.pinned.checked.prog.funcNamed Rows.datalogTurnedRow.func = some f) (hfn : Tryd.pinned.checked.prog.funcs[f]? = some fn) :
    true = Tryd.pinned.checked.prog.looks [] ∧ ∀ (j : Nat) t, fn.params[j]? = some t → Tryd.pinned.checked.prog.wantsStandIn t = false := by
  obtain rfl : f = 7 := Option.some.inj ((show Tryd.prog.funcNamed Rows.datalogTurnedRow.func = some 7 by kernel_rfl).symm.trans hf) |>.symm
  obtain rfl : fn = Tryd.f7 := (Option.some.inj (Tryd.func7.symm.trans hfn)).symm
  refine ⟨by kernel_rfl, fun j t ht => ?_⟩
  have hall : Tryd.f7.params.toList.all (fun t => !Tryd.prog.wantsStandIn t) = true := by kernel_rfl
  have := List.all_eq_true.1 hall t (by simpa using Array.mem_of_getElem? ht)
  have h2 : Tryd.prog.wantsStandIn t = false := by simpa using this
  exact h2

/-- THE CARD: stratagemlaw16's statement holds. -/
theorem card : Rows.DatalogTurnedCardSaid :=
  Claim7.holds_tied_plain_at .later [] _ _ _ _ said (fun _ h => by cases h) (by kernel_rfl) (fun _ h => by cases h) datalogTurned_row_tie rfl ⟨rfl, rfl⟩ (by kernel_rfl) rfl plain (by kernel_rfl)
end Go.Proofs.YtflgpccacloadaaDoor.rowTurned
