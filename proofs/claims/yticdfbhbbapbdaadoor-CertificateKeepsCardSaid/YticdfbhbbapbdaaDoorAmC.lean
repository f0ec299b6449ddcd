/- An abstract machine (3): what a state may be weakened to, code, loops, functions. -/
import Derived.Test.YticdfbhbbapbdaaDoorAmB
import Derived.Deep.LoopGhost
namespace Go.Proofs.YticdfbhbbapbdaaDoor.Am
open Go.RowKit

def mwk (η η' : Nat → Ent) (m : MM) : MM := ⟨fun i => match (η i).blk, (η' i).blk with | some _, some _ => m i | _, _ => none, m.O⟩
def WV (N : Nat) (η η' : Nat → Ent) (x x' : AV) : Prop := ∀ w m v, Mem N w η m → RV w (shp η) m x v → RV w (shp η') (mwk η η' m) x' v

section
variable {N : Nat} {η η' : Nat → Ent}
theorem mwk_some {m : MM} {i b : Nat} (h : mwk η η' m i = some b) : (η i).blk ≠ none ∧ (η' i).blk ≠ none ∧ m i = some b := by
  have h' : (match (η i).blk, (η' i).blk with | some _, some _ => m i | _, _ => none) = some b := h
  split at h'
  · rename_i h1 h2
    exact ⟨by rw [h1]; simp, by rw [h2]; simp, h'⟩
  · cases h'
theorem mwk_kept {m : MM} {i : Nat} {e e' : Ent} {B B' : Blk} (h1 : η i = e) (h2 : η' i = e') (hB : e.blk = some B) (hB' : e'.blk = some B') : mwk η η' m i = m i := by
  show (match (η i).blk, (η' i).blk with | some _, some _ => m i | _, _ => none) = m i
  rw [h1, h2, hB, hB']
theorem mwk_none {m : MM} {i : Nat} (h : (η i).blk = none) : mwk η η' m i = none := by
  show (match (η i).blk, (η' i).blk with | some _, some _ => m i | _, _ => none) = none
  rw [h]
theorem owned_wk {m : MM} {b : Nat} (h : Owned (shp η') (mwk η η' m) b) : Owned (shp η) m b := by
  rcases h with h | ⟨i, _, h2⟩
  · exact .inl h
  · obtain ⟨h3, _, h5⟩ := mwk_some h2
    exact .inr ⟨i, blk_live.2 h3, h5⟩
theorem rv_fr {w : World} {vs vs' : Shp} {m m' : MM} {x : AV} (hx : Fr x) (ho : ∀ b, Owned vs' m' b → Owned vs m b) : ∀ {v : Value}, RV w vs m x v → RV w vs' m' x v := by
  induction hx with
  | c u => intro v h; rw [rv_c h]; exact .c u
  | sl hl ih =>
    intro v h
    obtain ⟨A, cap, b, off, f, rfl, hA, hc, hm, hlen, hcell, hr, hfr⟩ := rv_sl h
    refine .sl (b := b) (off := off) (f := f) (fun hne => ?_) hc hm hlen hcell (fun k j e y h1 h2 => ih e (List.mem_of_getElem? h1) y (List.mem_of_getElem? h2) (hr k j e y h1 h2)) hfr
    obtain ⟨a1, a2, a3⟩ := hA hne
    exact ⟨a1, fun h => a2 (ho _ h), a3⟩
  | pim hl ih =>
    intro v h
    obtain ⟨b, off, f, rfl, hno, hlt, hcell, hr⟩ := rv_pim h
    exact .pim (fun h => hno (ho _ h)) hlt hcell (fun j y h1 => ih y (List.mem_of_getElem? h1) (hr j y h1))
  | agg hl ih =>
    intro v h
    obtain ⟨us, rfl, hlen, hr⟩ := rv_agg h
    exact .agg hlen (fun j y u h1 h2 => ih y (List.mem_of_getElem? h1) (hr j y u h1 h2))
  | tup hl ih =>
    intro v h
    obtain ⟨us, rfl, hlen, hr⟩ := rv_tup h
    exact .tup hlen (fun j y u h1 h2 => ih y (List.mem_of_getElem? h1) (hr j y u h1 h2))
  | clo h1 h2 i1 i2 =>
    intro v h
    cases h with
    | clo a1 a2 a3 a4 => exact .clo a1 (fun j y u q1 q2 => i1 y (List.mem_of_getElem? q1) (a2 j y u q1 q2)) a3 (fun j y u q1 q2 => i2 y (List.mem_of_getElem? q1) (a4 j y u q1 q2))
  | ifc h1 ih =>
    intro v h
    cases h with
    | ifc a1 => exact .ifc (ih a1)
theorem wv_dead (x : AV) : WV N η η' x .dead := fun _ _ v _ _ => .dead v
theorem wv_fr {x : AV} (h : Fr x) : WV N η η' x x := fun _ _ _ _ hv => rv_fr h (fun _ => owned_wk) hv
theorem wv_sl {sz : Nat} {l : List (List AV)} : WV N η η' (.sl sz l) (.sl sz l) := fun _ _ _ _ hv => by
  have := hv
  obtain ⟨_, _, _, _, _, _, _, _, _, _, _, _, hfr⟩ := rv_sl this
  exact rv_fr (.sl hfr) (fun _ => owned_wk) hv
theorem wv_own {i ver ver' k len : Nat} {B B' : Blk} (h1 : η i = ⟨ver, some B⟩) (h2 : η' i = ⟨ver', some B'⟩) (hs : B.sz = B'.sz) : WV N η η' (.own i ver k len) (.own i ver' k len) := by
  intro w m v hm hv
  have hs' : (shp η') i = (ver', some B.sz) := by simp [shp, h2, hs]
  have hk := mwk_kept (m := m) h1 h2 rfl rfl
  rcases rv_own hv h1 with ⟨rfl, rfl, e, rfl⟩ | ⟨k', A, rfl, rfl, rfl⟩ | ⟨b, cap, ty, nn, e1, e2, e3, e4, e5, rfl⟩
  · exact .ownN hs' (by rw [hk, e])
  · exact .ownZ hs'
  · exact .own hs' (by rw [hk, e1]) e2 e3 e4 e5
theorem wv_ptr {i ver ver' k j : Nat} {B B' : Blk} (h1 : η i = ⟨ver, some B⟩) (h2 : η' i = ⟨ver', some B'⟩) (hs : B.sz = B'.sz) : WV N η η' (.ptr i ver k j) (.ptr i ver' k j) := by
  intro w m v hm hv
  obtain ⟨b, e1, rfl⟩ := rv_ptr hv h1
  exact .ptr (by simp [shp, h2, hs]) (by rw [mwk_kept (m := m) h1 h2 rfl rfl, e1])
theorem wv_frz {i ver k len : Nat} {B : Blk} (h1 : η i = ⟨ver, some B⟩) (h2 : (η' i).blk = none) (hkl : k + len ≤ B.els.length) (hfr : FrL B.els) (hmax : len ≤ 140737488355328) : WV N η η' (.own i ver k len) (.sl B.sz ((B.els.drop k).take len)) := by
  intro w m v hm hv
  have hll : ((B.els.drop k).take len).length = len := by simp; omega
  have hfr' : FrL ((B.els.drop k).take len) := fun e he => hfr e (List.mem_of_mem_drop (List.mem_of_mem_take he))
  have nil : ∀ A, RV w (shp η') (mwk η η' m) (.sl B.sz ([] : List (List AV))) (.slice A 0 0) := fun A =>
    RV.sl (l := []) (b := 0) (off := 0) (f := fun _ _ => undef) (fun h => absurd rfl h) (Nat.le_refl _) (by simp) (fun k e h => by simp at h) (fun k j e x h => by simp at h) (fun k j e x h => by simp at h) (fun e he => by cases he)
  rcases rv_own hv h1 with ⟨rfl, rfl, e, rfl⟩ | ⟨k', A, rfl, rfl, rfl⟩ | ⟨b, cap, ty, nn, e1, e2, e3, e4, e5, rfl⟩
  · simpa using nil none
  · simpa using nil A
  · have hok := hm.ok i B (by rw [h1])
    rw [e1] at hok
    obtain ⟨arr, a1, a2, a3⟩ := hok
    have hlive : (η i).blk ≠ none := by rw [h1]; simp
    have hget : ∀ q e, ((B.els.drop k).take len)[q]? = some e → B.els[k + q]? = some e := fun q e he => by
      rw [List.getElem?_take] at he
      split at he
      · rw [List.getElem?_drop] at he; exact he
      · cases he
    have hcell : ∀ (q j : Nat) (e : List AV) (x : AV), ((B.els.drop k).take len)[q]? = some e → e[j]? = some x → ∃ u, arr.getD ((k + q) * B.sz + j) undef = u ∧ arr[(k + q) * B.sz + j]? = some u ∧ u.oneCell' = true ∧ RV w (shp η) m x u := fun q j e x he hj => by
      obtain ⟨u, u1, u2, u3⟩ := (a3 _ e (hget q e he)).2 j x hj
      exact ⟨u, by simp [Array.getD_eq_getD_getElem?, u1], u1, u2, u3⟩
    have := RV.sl (w := w) (vs := shp η') (m := mwk η η' m) (sz := B.sz) (l := (B.els.drop k).take len) (A := some ⟨b, k * B.sz, none⟩) (cap := cap) (b := b) (off := k * B.sz) (f := fun q j => arr.getD ((k + q) * B.sz + j) undef)
      (fun _ => ⟨rfl, ?_, lt_of_block a1⟩) (by omega) (by omega) (fun q e he => (a3 _ e (hget q e he)).1) (fun q j e x he hj => ?_) (fun q j e x he hj => ?_) hfr'
    · rw [hll] at this
      exact this
    · rintro (h | ⟨i', h3, h4⟩)
      · exact hm.sep i b hlive e1 h
      · obtain ⟨h5, h6, h7⟩ := mwk_some h4
        have := hm.inj i' i b h5 hlive h7 e1
        subst this
        exact h6 h2
    · obtain ⟨u, q1, q2, q3, _⟩ := hcell q j e x he hj
      refine ⟨?_, by rw [q1]; exact q3⟩
      rw [q1, show k * B.sz + (q * B.sz + j) = (k + q) * B.sz + j from by rw [Nat.add_mul]; omega]
      simp [World.cell?, a1, q2]
    · obtain ⟨u, q1, _, _, q4⟩ := hcell q j e x he hj
      rw [q1]
      exact rv_fr (hfr' e (List.mem_of_getElem? he) x (List.mem_of_getElem? hj)) (fun _ => owned_wk) q4
theorem wv_thaw {i ver' cc : Nat} {B' : Blk} (h1 : (η i).blk = none) (h2 : η' i = ⟨ver', some B'⟩) (hc : cc = 0) : WV N η η' (.c (.slice none 0 cc)) (.own i ver' 0 0) := by
  intro w m v hm hv
  subst hc
  rw [rv_c hv]
  exact .ownN (sz := B'.sz) (by simp [shp, h2]) (mwk_none h1)
theorem wv_nil {sz cc : Nat} : WV N η η' (.c (.slice none 0 cc)) (.sl sz []) := by
  intro w m v hm hv
  rw [rv_c hv]
  exact RV.sl (l := []) (b := 0) (off := 0) (f := fun _ _ => undef) (fun h => absurd rfl h) (Nat.zero_le _) (by simp) (fun k e h => by simp at h) (fun k j e x h => by simp at h) (fun k j e x h => by simp at h) (fun e he => by cases he)
theorem wv_agg {cs cs' : List AV} (hl : cs.length = cs'.length) (h : ∀ (j : Nat) (x x' : AV), cs[j]? = some x → cs'[j]? = some x' → WV N η η' x x') : WV N η η' (.agg cs) (.agg cs') := by
  intro w m v hm hv
  obtain ⟨us, rfl, hlen, hr⟩ := rv_agg hv
  refine .agg (by omega) (fun j x' u h1 h2 => ?_)
  have hlt : j < cs.length := by rw [hl]; exact (List.getElem?_eq_some_iff.1 h1).1
  exact h j _ x' (List.getElem?_eq_getElem hlt) h1 w m u hm (hr j _ u (List.getElem?_eq_getElem hlt) h2)
theorem wv_tup {cs cs' : List AV} (hl : cs.length = cs'.length) (h : ∀ (j : Nat) (x x' : AV), cs[j]? = some x → cs'[j]? = some x' → WV N η η' x x') : WV N η η' (.tup cs) (.tup cs') := by
  intro w m v hm hv
  obtain ⟨us, rfl, hlen, hr⟩ := rv_tup hv
  refine .tup (by omega) (fun j x' u h1 h2 => ?_)
  have hlt : j < cs.length := by rw [hl]; exact (List.getElem?_eq_some_iff.1 h1).1
  exact h j _ x' (List.getElem?_eq_getElem hlt) h1 w m u hm (hr j _ u (List.getElem?_eq_getElem hlt) h2)

/-- an entry may be weakened -/
def WE (N : Nat) (η η' : Nat → Ent) (i : Nat) : Prop :=
  ∀ B', (η' i).blk = some B' → (∃ B, (η i).blk = some B ∧ B'.ty = B.ty ∧ B'.sz = B.sz ∧ B'.box = B.box ∧ B'.els.length = B.els.length ∧ ∀ (k : Nat) (e e' : List AV), B.els[k]? = some e → B'.els[k]? = some e' → e'.length = e.length ∧ ∀ (j : Nat) (x x' : AV), e[j]? = some x → e'[j]? = some x' → WV N η η' x x') ∨
    ((η i).blk = none ∧ B'.els = [] ∧ B'.box = false)
theorem rep_wk {C : Cx} {n : Nat} {w0 : World} {X : XX} {τ τ' : Nat → AV} {η η' : Nat → Ent} {m : MM} {a : Act} {w : World} (h : Rep C n w0 X τ η m a w) (ht : ∀ t, WV C.N η η' (τ t) (τ' t)) (he : ∀ i, WE C.N η η' i) : Rep C n w0 X τ' η' (mwk η η' m) a w := by
  refine ⟨fun t => ht t w m _ h.mem (h.tm t), h.sz, h.df, ⟨fun i B' hB' => ?_, fun i i' b h1 h2 h3 h4 => ?_, fun i b h1 h2 => ?_, fun i b h1 h2 => ?_, h.mem.olt, h.mem.big⟩, h.kin, h.oo, fun i b h1 h2 => ?_, h.gl⟩
  · rcases he i B' hB' with ⟨B, hB, e1, e2, e0, e3, e4⟩ | ⟨e1, e2, e3⟩
    · have hk := mwk_kept (m := m) (i := i) rfl rfl hB hB'
      rw [hk]
      have hok := h.mem.ok i B hB
      cases hmi : m i with
      | none =>
        rw [hmi] at hok
        have : B.els = [] := hok.1
        have hl : B'.els = [] := List.length_eq_zero_iff.1 (by rw [e3, this]; rfl)
        exact ⟨hl, by rw [e0]; exact hok.2⟩
      | some b =>
        rw [hmi] at hok
        obtain ⟨arr, a1, a2, a3⟩ := hok
        refine ⟨arr, by rw [e1]; exact a1, by rw [e3, e2]; exact a2, fun k e' he' => ?_⟩
        have hlt : k < B.els.length := by rw [← e3]; exact (List.getElem?_eq_some_iff.1 he').1
        have hge := List.getElem?_eq_getElem hlt
        obtain ⟨l1, l2⟩ := e4 k _ e' hge he'
        obtain ⟨q1, q2⟩ := a3 k _ hge
        refine ⟨by rw [l1, q1, e2], fun j x' hx' => ?_⟩
        have hj : j < (B.els[k]).length := by rw [← l1]; exact (List.getElem?_eq_some_iff.1 hx').1
        have hgj := List.getElem?_eq_getElem hj
        obtain ⟨u, u1, u2, u3⟩ := q2 j _ hgj
        exact ⟨u, by rw [e2]; exact u1, u2, l2 j _ x' hgj hx' w m u h.mem u3⟩
    · rw [mwk_none e1]
      exact ⟨e2, e3⟩
  · obtain ⟨a1, _, a3⟩ := mwk_some h3
    obtain ⟨b1, _, b3⟩ := mwk_some h4
    exact h.mem.inj i i' b a1 b1 a3 b3
  · obtain ⟨a1, _, a3⟩ := mwk_some h2
    exact h.mem.low i b a1 a3
  · obtain ⟨a1, _, a3⟩ := mwk_some h2
    exact h.mem.sep i b a1 a3
  · obtain ⟨a1, _, a3⟩ := mwk_some h2
    exact h.own i b a1 a3
end

structure St where
  tm : List AV
  hp : List Ent

/-- what is left to show when a value is weakened -/
def wkV0 (hp hp' : List Ent) (x x' : AV) (K : Prop) : Prop :=
  match x' with
  | .dead => K
  | .own i' ver' k' len' => match x with
    | .own i ver k len => ifK (i.beq i') (blkK hp i ver (fun B => blkK hp' i' ver' (fun B' => ifK (B.sz.beq B'.sz) ((k = k' ∧ len = len') ∧ K))))
    | .c (.slice none 0 0) => getK hp i' (fun e => match e.blk with
      | none => blkK hp' i' ver' (fun _ => (k' = 0 ∧ len' = 0) ∧ K)
      | some _ => False)
    | _ => False
  | .ptr i' ver' k' j' => match x with
    | .ptr i ver k j => ifK (i.beq i') (blkK hp i ver (fun B => blkK hp' i' ver' (fun B' => ifK (B.sz.beq B'.sz) ((k = k' ∧ j = j') ∧ K))))
    | _ => False
  | .sl sz' l' => match x with
    | .own i ver k len => blkK hp i ver (fun B => (match (hp'.getD i ⟨0, none⟩).blk with
      | none => True
      | some _ => False) ∧ (B.sz = sz' ∧ l' = (B.els.drop k).take len ∧ k + len ≤ B.els.length ∧ FrL B.els ∧ len ≤ 140737488355328) ∧ K)
    | .sl sz l => (sz = sz' ∧ l = l') ∧ K
    | .c (.slice none 0 0) => (l' = []) ∧ K
    | _ => False
  | .c v' => (x = .c v') ∧ K
  | x' => (x = x' ∧ Fr x') ∧ K
def wkT0 (hp hp' : List Ent) : List AV → List AV → Prop → Prop
  | [], [], K => K
  | x :: r, x' :: r', K => wkV0 hp hp' x x' (wkT0 hp hp' r r' K)
  | _, _, _ => False
def wkV (hp hp' : List Ent) (x x' : AV) (K : Prop) : Prop :=
  match x' with
  | .agg cs' => match x with
    | .agg cs => wkT0 hp hp' cs cs' K
    | _ => False
  | x' => wkV0 hp hp' x x' K
def wkT (hp hp' : List Ent) : List AV → List AV → Prop → Prop
  | [], [], K => K
  | x :: r, x' :: r', K => wkV hp hp' x x' (wkT hp hp' r r' K)
  | _, _, _ => False
def wkE (hp hp' : List Ent) (e e' : Ent) (K : Prop) : Prop :=
  match e'.blk with
  | none => K
  | some B' => match e.blk with
    | none => ifK (!B'.box) ((B'.els = []) ∧ K)
    | some B => ifK (B.ty.beq B'.ty && B.sz.beq B'.sz) (match B.box, B'.box, B.els, B'.els with
      | true, true, [c], [c'] => wkT hp hp' c c' K
      | false, false, els, els' => (els = els' ∧ FrL els) ∧ K
      | _, _, _, _ => False)
def wkH (hp hp' : List Ent) : List Ent → List Ent → Prop → Prop
  | _, [], K => K
  | e :: r, e' :: r', K => wkE hp hp' e e' (wkH hp hp' r r' K)
  | _, _, _ => False
def leK (s s' : St) (K : Prop) : Prop := wkT s.hp s'.hp s.tm s'.tm (wkH s.hp s'.hp s.hp s'.hp K)

section
variable {N : Nat}
theorem wkV0_ok {hp hp' : List Ent} {x x' : AV} {K : Prop} (h : wkV0 hp hp' x x' K) : WV N (hpF hp) (hpF hp') x x' ∧ K := by
  unfold wkV0 at h
  split at h
  · exact ⟨wv_dead _, h⟩
  · split at h
    · obtain ⟨h1, h⟩ := ifK_ok h
      obtain ⟨B, hB, h⟩ := blkK_ok h
      obtain ⟨B', hB', h⟩ := blkK_ok h
      obtain ⟨h2, ⟨rfl, rfl⟩, hK⟩ := ifK_ok h
      have := Nat.eq_of_beq_eq_true h1
      subst this
      exact ⟨wv_own hB hB' (Nat.eq_of_beq_eq_true h2), hK⟩
    · obtain ⟨e, he, h⟩ := getK_ok h
      split at h
      · rename_i hn
        obtain ⟨B', hB', ⟨rfl, rfl⟩, hK⟩ := blkK_ok h
        exact ⟨wv_thaw (by rw [hp_get he]; exact hn) hB' rfl, hK⟩
      · exact h.elim
    · exact h.elim
  · split at h
    · obtain ⟨h1, h⟩ := ifK_ok h
      obtain ⟨B, hB, h⟩ := blkK_ok h
      obtain ⟨B', hB', h⟩ := blkK_ok h
      obtain ⟨h2, ⟨rfl, rfl⟩, hK⟩ := ifK_ok h
      have := Nat.eq_of_beq_eq_true h1
      subst this
      exact ⟨wv_ptr hB hB' (Nat.eq_of_beq_eq_true h2), hK⟩
    · exact h.elim
  · split at h
    · obtain ⟨B, hB, hn, ⟨h1, h2, h3, h4, h5⟩, hK⟩ := blkK_ok h
      subst h1 h2
      refine ⟨wv_frz hB ?_ h3 h4 h5, hK⟩
      split at hn
      · assumption
      · exact hn.elim
    · obtain ⟨⟨rfl, rfl⟩, h⟩ := h
      exact ⟨wv_sl, h⟩
    · obtain ⟨rfl, h⟩ := h
      exact ⟨wv_nil, h⟩
    · exact h.elim
  · obtain ⟨rfl, h⟩ := h
    exact ⟨wv_fr (.c _), h⟩
  · obtain ⟨⟨rfl, h1⟩, h⟩ := h
    exact ⟨wv_fr h1, h⟩
theorem wkT0_ok {hp hp' : List Ent} : ∀ {l l' : List AV} {K : Prop}, wkT0 hp hp' l l' K → l.length = l'.length ∧ (∀ (j : Nat) (x x' : AV), l[j]? = some x → l'[j]? = some x' → WV N (hpF hp) (hpF hp') x x') ∧ K
  | [], [], K, h => ⟨rfl, fun j x x' hx => by simp at hx, h⟩
  | x :: r, x' :: r', K, h => by
    obtain ⟨h1, h2⟩ := wkV0_ok (N := N) h
    obtain ⟨h3, h4, h5⟩ := wkT0_ok (l := r) (l' := r') h2
    refine ⟨by simp [h3], fun j y y' hy hy' => ?_, h5⟩
    cases j with
    | zero => simp at hy hy'; subst hy hy'; exact h1
    | succ j => exact h4 j y y' (by simpa using hy) (by simpa using hy')
  | [], _ :: _, _, h => h.elim
  | _ :: _, [], _, h => h.elim
theorem wkV_ok {hp hp' : List Ent} {x x' : AV} {K : Prop} (h : wkV hp hp' x x' K) : WV N (hpF hp) (hpF hp') x x' ∧ K := by
  unfold wkV at h
  split at h
  · split at h
    · obtain ⟨h1, h2, h3⟩ := wkT0_ok (N := N) h
      exact ⟨wv_agg h1 h2, h3⟩
    · exact h.elim
  · exact wkV0_ok h
theorem wkT_ok {hp hp' : List Ent} : ∀ {l l' : List AV} {K : Prop}, wkT hp hp' l l' K → l.length = l'.length ∧ (∀ (j : Nat) (x x' : AV), l[j]? = some x → l'[j]? = some x' → WV N (hpF hp) (hpF hp') x x') ∧ K
  | [], [], K, h => ⟨rfl, fun j x x' hx => by simp at hx, h⟩
  | x :: r, x' :: r', K, h => by
    obtain ⟨h1, h2⟩ := wkV_ok (N := N) h
    obtain ⟨h3, h4, h5⟩ := wkT_ok (l := r) (l' := r') h2
    refine ⟨by simp [h3], fun j y y' hy hy' => ?_, h5⟩
    cases j with
    | zero => simp at hy hy'; subst hy hy'; exact h1
    | succ j => exact h4 j y y' (by simpa using hy) (by simpa using hy')
  | [], _ :: _, _, h => h.elim
  | _ :: _, [], _, h => h.elim
theorem wkE_ok {hp hp' : List Ent} {i : Nat} {e e' : Ent} {K : Prop} (he : hpF hp i = e) (he' : hpF hp' i = e') (h : wkE hp hp' e e' K) : WE N (hpF hp) (hpF hp') i ∧ K := by
  unfold wkE at h
  split at h
  · rename_i hn
    exact ⟨fun B' hB' => (by rw [he', hn] at hB'; cases hB'), h⟩
  · rename_i B' hB'
    split at h
    · rename_i hn
      obtain ⟨h1, h2, h⟩ := ifK_ok h
      refine ⟨fun B'' hB'' => .inr ⟨by rw [he, hn], ?_, ?_⟩, h⟩
      · rw [he', hB'] at hB''; injection hB'' with hB''; rw [← hB'']; exact h2
      · rw [he', hB'] at hB''; injection hB'' with hB''; rw [← hB'']; simpa using h1
    · rename_i B hB
      obtain ⟨h1, hh⟩ := ifK_ok h
      clear h
      rw [Bool.and_eq_true] at h1
      have e1 := Nat.eq_of_beq_eq_true h1.1
      have e2 := Nat.eq_of_beq_eq_true h1.2
      clear h1
      obtain ⟨ty, sz, box, els⟩ := B
      obtain ⟨ty', sz', box', els'⟩ := B'
      simp only at e1 e2
      subst e1 e2
      split at hh
      · rename_i c c' b1 b2 l1 l2
        simp only at b1 b2 l1 l2
        subst b1 b2 l1 l2
        obtain ⟨h3, h4, h5⟩ := wkT_ok (N := N) hh
        refine ⟨fun B'' hB'' => .inl ⟨_, by rw [he, hB], ?_⟩, h5⟩
        rw [he', hB'] at hB''
        injection hB'' with hB''
        subst hB''
        refine ⟨rfl, rfl, rfl, rfl, fun k q q' hq hq' => ?_⟩
        cases k with
        | zero => simp at hq hq'; subst hq hq'; exact ⟨h3.symm, h4⟩
        | succ k => simp at hq
      · rename_i els1 els2 b1 b2
        simp only at b1 b2
        obtain ⟨⟨h3, h4⟩, h5⟩ := hh
        simp only at h3 h4
        subst b1 b2 h3
        refine ⟨fun B'' hB'' => .inl ⟨_, by rw [he, hB], ?_⟩, h5⟩
        rw [he', hB'] at hB''
        injection hB'' with hB''
        subst hB''
        refine ⟨rfl, rfl, rfl, rfl, fun k q q' hq hq' => ?_⟩
        simp only at hq hq'
        rw [hq] at hq'
        injection hq' with hq'
        subst hq'
        refine ⟨rfl, fun j x x' hx hx' => ?_⟩
        rw [hx] at hx'
        injection hx' with hx'
        subst hx'
        exact wv_fr (h4 q (List.mem_of_getElem? hq) x (List.mem_of_getElem? hx))
      · exact hh.elim
theorem wkH_ok {hp hp' : List Ent} : ∀ (l l' : List Ent) (i0 : Nat) {K : Prop}, (∀ i, hpF hp (i0 + i) = l.getD i ⟨0, none⟩) → (∀ i, hpF hp' (i0 + i) = l'.getD i ⟨0, none⟩) → wkH hp hp' l l' K → (∀ i, i0 ≤ i → WE N (hpF hp) (hpF hp') i) ∧ K
  | l, [], i0, K, h1, h2, h => by
    have h' : K := by cases l <;> exact h
    refine ⟨fun i hi B' hB' => ?_, h'⟩
    have := h2 (i - i0)
    rw [show i0 + (i - i0) = i from by omega] at this
    rw [this] at hB'
    simp at hB'
  | e :: r, e' :: r', i0, K, h1, h2, h => by
    have q1 : hpF hp i0 = e := by simpa using h1 0
    have q2 : hpF hp' i0 = e' := by simpa using h2 0
    obtain ⟨h3, h4⟩ := wkE_ok (N := N) q1 q2 h
    obtain ⟨h5, h6⟩ := wkH_ok r r' (i0 + 1) (fun i => by have := h1 (i + 1); rw [show i0 + 1 + i = i0 + (i + 1) from by omega]; simpa using this) (fun i => by have := h2 (i + 1); rw [show i0 + 1 + i = i0 + (i + 1) from by omega]; simpa using this) h4
    refine ⟨fun i hi => ?_, h6⟩
    rcases Nat.eq_or_lt_of_le hi with h | h
    · subst h; exact h3
    · exact h5 i h
  | [], _ :: _, _, _, _, _, h => h.elim
end

def RepS (C : Cx) (w0 : World) (X : XX) (s : St) (m : MM) (a : Act) (w : World) : Prop := Rep C s.tm.length w0 X (tmF s.tm) (hpF s.hp) m a w
theorem leK_ok {C : Cx} {s s' : St} {K : Prop} (h : leK s s' K) : s'.tm.length = s.tm.length ∧ K ∧ ∀ w0 X m a w, RepS C w0 X s m a w → ∃ m', RepS C w0 X s' m' a w := by
  obtain ⟨h1, h2, h3⟩ := wkT_ok (N := C.N) h
  obtain ⟨h4, h5⟩ := wkH_ok (N := C.N) s.hp s'.hp 0 (fun i => by rw [Nat.zero_add]) (fun i => by rw [Nat.zero_add]) h3
  refine ⟨h1.symm, h5, fun w0 X m a w hr => ⟨mwk (hpF s.hp) (hpF s'.hp) m, ?_⟩⟩
  unfold RepS at hr ⊢
  rw [← h1]
  refine rep_wk hr (fun t => ?_) (fun i => h4 i (Nat.zero_le _))
  show WV C.N _ _ (s.tm.getD t .dead) (s'.tm.getD t .dead)
  rcases Nat.lt_or_ge t s.tm.length with hlt | hge
  · have a1 := List.getElem?_eq_getElem hlt
    have a2 := List.getElem?_eq_getElem (show t < s'.tm.length from by omega)
    have := h2 t _ _ a1 a2
    simpa [List.getD_eq_getElem?_getD, a1, a2] using this
  · rw [show s'.tm.getD t .dead = .dead from by rw [List.getD_eq_getElem?_getD, List.getElem?_eq_none (by omega)]; rfl]
    exact wv_dead _

/-- code, from a state -/
def AWP (C : Cx) (c : Code) (Q : Exit → St → Prop) (s : St) : Prop :=
  ∀ w0 X m a w, RepS C w0 X s m a w → c.wp C.P (fun e a' w' => ∃ s' m', s'.tm.length = s.tm.length ∧ Q e s' ∧ RepS C w0 X s' m' a' w') a w
def thenA (next : St → Prop) (Q : Exit → St → Prop) : Exit → St → Prop
  | .normal, s => next s
  | e, s => Q e s
def ifB : Bool → Prop → Prop → Prop
  | true, p, _ => p
  | false, _, q => q
def blockA (id : Nat) (Q : Exit → St → Prop) : Exit → St → Prop
  | .exit j, s => ifB (j.beq id) (Q .normal s) (Q (.exit j) s)
  | e, s => Q e s
section
variable {C : Cx} {Q : Exit → St → Prop} {s : St}
theorem awp_mono {c : Code} {Q' : Exit → St → Prop} (h : AWP C c Q s) (hq : ∀ e s, Q e s → Q' e s) : AWP C c Q' s :=
  fun w0 X m a w hr => wp_mono (h w0 X m a w hr) (fun _ _ _ ⟨s', m', h1, h2, h3⟩ => ⟨s', m', h1, hq _ _ h2, h3⟩)
theorem awp_le {c : Code} {s' : St} (hl : leK s s' True) (h : AWP C c Q s') : AWP C c Q s := by
  obtain ⟨h1, _, h2⟩ := leK_ok (C := C) hl
  intro w0 X m a w hr
  obtain ⟨m', hr'⟩ := h2 w0 X m a w hr
  exact wp_mono (h w0 X m' a w hr') (fun _ _ _ ⟨s2, m2, g1, g2, g3⟩ => ⟨s2, m2, by rw [g1, h1], g2, g3⟩)
theorem awp_skip (h : Q .normal s) : AWP C .skip Q s := fun _ _ m _ _ hr => wp_skip ⟨s, m, rfl, h, hr⟩
theorem awp_label {l : Nat} (h : Q .normal s) : AWP C (.label l) Q s := fun _ _ m _ _ hr => wp_label ⟨s, m, rfl, h, hr⟩
theorem awp_exit {id : Nat} (h : Q (.exit id) s) : AWP C (.exit id) Q s := fun _ _ m _ _ hr => wp_exit ⟨s, m, rfl, h, hr⟩
theorem awp_ret (h : Q .ret s) : AWP C .ret Q s := fun _ _ m _ _ hr => wp_ret ⟨s, m, rfl, h, hr⟩
theorem awp_seq {x y : Code} (h : AWP C x (thenA (AWP C y Q) Q) s) : AWP C (.seq x y) Q s := by
  intro w0 X m a w hr
  refine wp_seq (wp_mono (h w0 X m a w hr) ?_)
  rintro e a' w' ⟨s', m', h1, h2, h3⟩
  cases e with
  | normal => exact wp_mono (h2 w0 X m' a' w' h3) (fun _ _ _ ⟨s2, m2, g1, g2, g3⟩ => ⟨s2, m2, by rw [g1, h1], g2, g3⟩)
  | _ => exact ⟨s', m', h1, h2, h3⟩
theorem awp_block {id : Nat} {c : Code} (h : AWP C c (blockA id Q) s) : AWP C (.block id c) Q s := by
  intro w0 X m a w hr
  refine wp_block (wp_mono (h w0 X m a w hr) ?_)
  rintro e a' w' ⟨s', m', h1, h2, h3⟩
  cases e with
  | exit j =>
    simp only [Exit.inBlock]
    have h2' : ifB (j.beq id) (Q .normal s') (Q (.exit j) s') := h2
    split
    · rename_i hj
      rw [show j.beq id = true from by rw [hj]; exact Nat.beq_refl id] at h2'
      exact ⟨s', m', h1, h2', h3⟩
    · rename_i hj
      have : j.beq id = false := by
        cases hb : j.beq id
        · rfl
        · exact absurd (Nat.eq_of_beq_eq_true hb) hj
      rw [this] at h2'
      exact ⟨s', m', h1, h2', h3⟩
  | _ => exact ⟨s', m', h1, h2, h3⟩
theorem awp_cond {c : Operand} {x y : Code} {tm : List AV} {hp : List Ent} (h : evK tm c (fun a => match a with
    | .c (.bool t) => True → (t = true → AWP C x Q ⟨tm, hp⟩) ∧ (t = false → AWP C y Q ⟨tm, hp⟩)
    | _ => False)) : AWP C (.cond c x y) Q ⟨tm, hp⟩ := by
  intro w0 X m a w hr
  have h := evK_ok h
  split at h
  · rename_i t e
    have hv := Rep.ev hr c
    rw [e] at hv
    obtain ⟨h1, h2⟩ := h trivial
    exact wp_cond_split (rv_c hv) (fun ht => h1 ht w0 X m a w hr) (fun ht => h2 ht w0 X m a w hr)
  · exact h.elim
theorem awp_region {id : Nat} {ops : Array Oper} {draw : Bool} {tm : List AV} {hp : List Ent} (h : vcT C ops ops.toList [] tm hp [] [] (fun fs tm hp => (draw = true → indepOk ops fs = true ∧ backOk ops.toList 0 = true) ∧ Q .normal ⟨tm, hp⟩)) : AWP C (.region id ops draw) Q ⟨tm, hp⟩ := by
  intro w0 X m a w hr
  obtain ⟨fs, tm', hp', h1, _, ⟨h3, h4⟩, h5⟩ := vcT_ok _ _ _ _ _ _ _ (fun d b hd => by cases hd) h
  refine wp_region_tr h1 (fun hd => ⟨C.mixed, by simpa using (h3 hd).1, (h3 hd).2⟩) hr (fun m' a' w' hr' => ⟨⟨tm', hp'⟩, m', h5, h4, ?_⟩)
  unfold RepS
  rw [h5]
  exact hr'
/-- a frame by its live slots -/
def mkT : Nat → Nat → List (Nat × AV) → List AV
  | _, 0, _ => []
  | i, n + 1, (j, a) :: r => match j.beq i with
    | true => a :: mkT (i + 1) n r
    | false => .dead :: mkT (i + 1) n ((j, a) :: r)
  | i, n + 1, [] => .dead :: mkT (i + 1) n []
def mkH : Nat → Nat → List (Nat × Blk) → List Ent
  | _, 0, _ => []
  | i, n + 1, (j, a) :: r => match j.beq i with
    | true => ⟨0, some a⟩ :: mkH (i + 1) n r
    | false => ⟨0, none⟩ :: mkH (i + 1) n ((j, a) :: r)
  | i, n + 1, [] => ⟨0, none⟩ :: mkH (i + 1) n []
def mkS (n : Nat) (t : List (Nat × AV)) (h : List (Nat × Blk)) : St := ⟨mkT 0 n t, mkH 0 n h⟩
theorem awp_loop {α : Type} {c : Code} (I : α → St) (R : α → Prop) (μ : α → Nat) (x0 : α) (hR : R x0) (h0 : leK s (I x0) True)
    (round : ∀ x, R x → forceK (I x).tm (fun tm => forceK (I x).hp (fun hp => True → AWP C c (thenA (fun s' => ∃ x', R x' ∧ μ x' < μ x ∧ leK s' (I x') True) Q) ⟨tm, hp⟩))) : AWP C (.loop c) Q s := by
  intro w0 X m a w hr
  obtain ⟨g1, _, g2⟩ := leK_ok (C := C) h0
  obtain ⟨m0, hr0⟩ := g2 w0 X m a w hr
  refine wp_loop_ghost (fun n a w => ∃ x m, R x ∧ μ x = n ∧ (I x).tm.length = s.tm.length ∧ RepS C w0 X (I x) m a w) (μ x0) ⟨x0, m0, hR, rfl, g1, hr0⟩ ?_
  rintro n a w ⟨x, m, hRx, rfl, hl, hx⟩
  refine wp_mono (forceK_ok (forceK_ok (round x hRx)) trivial w0 X m a w hx) ?_
  rintro e a' w' ⟨s', m', h1, h2, h3⟩
  cases e with
  | normal =>
    obtain ⟨x', hR', hlt, hle⟩ := h2
    obtain ⟨k1, _, k2⟩ := leK_ok (C := C) hle
    obtain ⟨m2, h4⟩ := k2 w0 X m' a' w' h3
    exact ⟨μ x', hlt, x', m2, hR', rfl, by rw [k1, h1]; exact hl, h4⟩
  | _ => exact ⟨s', m', by rw [h1]; exact hl, h2, h3⟩
end

def nov : Shp := fun _ => (0, none)
def mO (O : Nat → Prop) : MM := ⟨fun _ => none, O⟩
theorem owned_nov {O : Nat → Prop} {b : Nat} : Owned nov (mO O) b ↔ O b := by
  constructor
  · rintro (h | ⟨i, h, _⟩)
    · exact h
    · exact absurd rfl h
  · exact .inl
/-- the function, called with these values, returns this value; memory of its callers stays as it is -/
def ACall (C : Cx) (f : FuncId) (args : List AV) (r : AV) : Prop :=
  (∀ (vs : Array Value) (w : World), (callFunc f vs).run C.P w = .ok (.enter f vs) w) ∧
  ∀ (w : World) (O : Nat → Prop) (cargs : Array Value), C.Gl w → C.N ≤ w.heap.size → (∀ b, O b → b < w.heap.size ∧ C.N ≤ b) → cargs.size = args.length → (∀ (j : Nat) (x : AV) (v : Value), args[j]? = some x → cargs[j]? = some v → RV w nov (mO O) x v) →
    Calls C.P f cargs w (fun e w' => ∃ v, e = .returned v ∧ RV w' nov (mO O) r v ∧ Kin w (fun _ => False) w' ∧ C.Gl w')

/-- the results of a function, as the state holds them -/
def resK (C : Cx) (tm : List AV) (hp : List Ent) : List ResultVar → (List AV → Prop) → Prop
  | [], k => k []
  | .tmp t :: r, k => getK tm t (fun a => resK C tm hp r (fun q => k (a :: q)))
  | .cell p t :: r, k => tyK C.T t (fun ti => getK tm p (fun a => match a with
    | .ptr i ver kk j => blkK hp i ver (fun B => ifK (Nat.ble (j + ti.sz) B.sz) (elK B kk (fun e => cutK ti e j (fun x => resK C tm hp r (fun q => k (x :: q))))))
    | _ => False))
def oneK : List AV → AV → (List AV → List AV → Prop) → Prop
  | [x], r, k => k [x] [r]
  | xs, .tup rs, k => k xs rs
  | _, _, _ => False
def retK (C : Cx) (rs : List ResultVar) (r : AV) : Exit → St → Prop
  | .normal, s => resK C s.tm s.hp rs (fun xs => oneK xs r (fun xs rs => True → wkT s.hp [] xs rs True))
  | .ret, s => resK C s.tm s.hp rs (fun xs => oneK xs r (fun xs rs => True → wkT s.hp [] xs rs True))
  | _, _ => False

theorem oneK_ok {xs : List AV} {r : AV} {k : List AV → List AV → Prop} (h : oneK xs r k) : (∃ x, xs = [x] ∧ k [x] [r]) ∨ (∃ rs, r = .tup rs ∧ (∀ x, xs ≠ [x]) ∧ k xs rs) := by
  unfold oneK at h
  split at h
  · exact .inl ⟨_, rfl, h⟩
  · rename_i hne
    exact .inr ⟨_, rfl, fun x e => hne x e, h⟩
  · exact h.elim
section
variable {C : Cx} {n : Nat}
theorem load_own {t : TypeId} {ti : TI} {p i ver k j : Nat} {B : Blk} {e : List AV} {τ : Nat → AV} {η : Nat → Ent} {w0 : World} {X : XX} {m : MM} {a : Act} {w : World} (h : Rep C n w0 X τ η m a w) (hx : τ p = .ptr i ver k j) (hi : η i = ⟨ver, some B⟩) (he : B.els[k]? = some e) (ht : TyOk C.P t ti) (h1 : ti.kind.agg = false → ti.sz = 1) (hj : j + ti.sz ≤ B.sz) :
    ∃ ad v, a.tmps.getD p undef = .pointer (some ad) ∧ (loadVar t ad).run C.P w = .ok v w ∧ RV w (shp η) m (cut ti e j) v := by
  have hv := h.tm p
  rw [hx] at hv
  obtain ⟨b, hb, hu⟩ := rv_ptr hv hi
  obtain ⟨v, h2, h3⟩ := p_load_own (o := ⟨none, .load t (.tmp p), 0, "", #[], none⟩) (x := .tmp p) rfl hx hi he ht h1 hj w0 X m a w h
  refine ⟨_, v, hu, ?_, h3⟩
  have hu' : a.eval (.tmp p) = .pointer (some ⟨b, k * B.sz + j, none⟩) := hu
  simp only [execOp, Instr.loadAt, hu', Instr.sureAddr, Sem.run_bind, Sem.run_pure, Result.andThen_ok] at h2
  generalize (loadVar t ⟨b, k * B.sz + j, none⟩).run C.P w = q at h2
  cases q with
  | ok u w' =>
    simp only [Result.andThen_ok] at h2
    injection h2 with h4 h5
    injection h4 with h4
    rw [h4, h5]
  | halt u w' => cases h2
theorem resK_ok {tm : List AV} {hp : List Ent} {w0 : World} {X : XX} {m : MM} {a : Act} {w : World} (h : Rep C tm.length w0 X (tmF tm) (hpF hp) m a w) : ∀ {rs : List ResultVar} {k : List AV → Prop}, resK C tm hp rs k →
    ∃ xs us, k xs ∧ (rs.mapM (fun r => (match r with | .tmp t => pure (a.tmps.getD t undef) | .cell q t => do loadVar t (← asAddr (a.tmps.getD q undef)) : Sem Value)) : Sem (List Value)).run C.P w = .ok us w ∧ xs.length = us.length ∧
      ∀ (j : Nat) (x : AV) (u : Value), xs[j]? = some x → us[j]? = some u → RV w (shp (hpF hp)) m x u
  | [], k, hk => ⟨[], [], hk, by simp, rfl, fun j x u hx => by simp at hx⟩
  | .tmp t :: r, k, hk => by
    obtain ⟨x, hx, hk⟩ := getK_ok hk
    obtain ⟨xs, us, h1, h2, h3, h4⟩ := resK_ok h hk
    have htx : tmF tm t = x := by
      show tm.getD t .dead = x
      rw [List.getD_eq_getElem?_getD, hx]
      rfl
    refine ⟨x :: xs, a.tmps.getD t undef :: us, h1, ?_, by simp [h3], fun j y u hy hu => ?_⟩
    · rw [List.mapM_cons]
      simp only [Sem.run_bind, Sem.run_pure, Result.andThen_ok, h2]
    · cases j with
      | zero =>
        simp only [List.getElem?_cons_zero, Option.some.injEq] at hy hu
        subst hy hu
        rw [← htx]
        exact h.tm t
      | succ j => exact h4 j y u (by simpa using hy) (by simpa using hu)
  | .cell p t :: r, k, hk => by
    obtain ⟨ti, ht, hk⟩ := tyK_ok hk
    obtain ⟨x, hx, hk⟩ := getK_ok hk
    have htx : tmF tm p = x := by
      show tm.getD p .dead = x
      rw [List.getD_eq_getElem?_getD, hx]
      rfl
    split at hk
    · obtain ⟨B, hB, hk⟩ := blkK_ok hk
      obtain ⟨g1, hk⟩ := ifK_ok hk
      obtain ⟨e, he, _, hk⟩ := elK_ok hk
      obtain ⟨c1, c2, hk⟩ := cutK_ok hk
      obtain ⟨ad, v, q1, q2, q3⟩ := load_own h htx hB he ht c2 (Nat.le_of_ble_eq_true g1)
      obtain ⟨xs, us, h1, h2, h3, h4⟩ := resK_ok h hk
      refine ⟨_ :: xs, v :: us, h1, ?_, by simp [h3], fun j y u hy hu => ?_⟩
      · rw [List.mapM_cons]
        have hA : (asAddr (a.tmps.getD p undef)).run C.P w = .ok ad w := by rw [q1]; rfl
        simp only [Sem.run_bind, hA, Sem.run_pure, Result.andThen_ok, q2, h2]
      · cases j with
        | zero =>
          simp only [List.getElem?_cons_zero, Option.some.injEq] at hy hu
          subst hy hu
          exact q3
        | succ j => exact h4 j y u (by simpa using hy) (by simpa using hu)
    · exact hk.elim

theorem shp_nil : shp (hpF []) = nov := by
  funext i
  simp [shp, nov]
theorem mwk_nil (η : Nat → Ent) (m : MM) : mwk η (hpF []) m = mO m.O := by
  unfold mwk mO
  congr 1
  funext i
  simp
theorem acall_of {f : FuncId} {fn : Func} {c : Code} {args : List AV} {r : AV} (hf : C.P.funcs[f]? = some fn) (hb : fn.body = some c) (hname : (fn.name == "runtime.NumGoroutine") = false) (hn : fn.ntmps = n) (_ha : args.length ≤ n)
    (h : forceK (args ++ List.replicate (n - args.length) .dead) (fun tm => forceK (List.replicate n ⟨0, none⟩) (fun hp => True → AWP C c (retK C fn.results.toList r) ⟨tm, hp⟩))) : ACall C f args r := by
  have h := forceK_ok (forceK_ok h) trivial
  refine ⟨fun vs w => ?_, fun w O cargs hg hN hO hsz hargs => ?_⟩
  · simp only [callFunc, Sem.run_bind, program, Sem.run, Result.andThen_ok, hf, hname, hb]
    rfl
  have hη : ∀ i, hpF (List.replicate n ⟨0, none⟩) i = ⟨0, none⟩ := fun i => by
    show (List.replicate n (⟨0, none⟩ : Ent)).getD i _ = _
    rw [List.getD_eq_getElem?_getD, List.getElem?_replicate]
    split <;> rfl
  have hηf : hpF (List.replicate n ⟨0, none⟩) = fun _ => ⟨0, none⟩ := funext hη
  have hshp : shp (hpF (List.replicate n ⟨0, none⟩)) = nov := by rw [hηf]; rfl
  have hrep : RepS C w ⟨fun _ => False, O⟩ ⟨args ++ List.replicate (n - args.length) .dead, List.replicate n ⟨0, none⟩⟩ (mO O) { tmps := cargs ++ Array.replicate (fn.ntmps - cargs.size) undef, defers := [] } w := by
    refine ⟨fun t => ?_, by simp [hn, hsz], rfl, ⟨fun i B hB => ?_, fun i i' b hl => ?_, fun i b hl => ?_, fun i b hl => ?_, hO, hN⟩, ⟨rfl, rfl, rfl, Nat.le_refl _, fun _ _ _ => rfl⟩, rfl, fun i b hl => ?_, hg⟩
    · rw [hshp]
      show RV w nov (mO O) ((args ++ List.replicate (n - args.length) AV.dead).getD t .dead) _
      rcases Nat.lt_or_ge t args.length with hlt | hge
      · rw [List.getD_eq_getElem?_getD, List.getElem?_append_left hlt, List.getElem?_eq_getElem hlt]
        have hc : t < cargs.size := by omega
        refine hargs t _ _ (List.getElem?_eq_getElem hlt) ?_
        rw [Array.getD_eq_getD_getElem?, Array.getElem?_append_left hc, Array.getElem?_eq_getElem hc]
        rfl
      · have : (args ++ List.replicate (n - args.length) AV.dead).getD t .dead = .dead := by
          rw [List.getD_eq_getElem?_getD, List.getElem?_append_right hge, List.getElem?_replicate]
          split <;> rfl
        rw [this]
        exact .dead _
    all_goals (simp only [hη] at *; first | (exact absurd rfl hl) | (cases hB))
  refine calls_of_wp hf hb (wp_mono (h w _ (mO O) _ w hrep) ?_)
  rintro e a' w' ⟨s', m', hl, hq, hr'⟩
  have fin : resK C s'.tm s'.hp fn.results.toList (fun xs => oneK xs r (fun xs rs => True → wkT s'.hp [] xs rs True)) → a'.defers = [] ∧ ∃ v, (results fn a'.tmps).run C.P w' = .ok v w' ∧ ∃ u, Ending.returned v = .returned u ∧ RV w' nov (mO O) r u ∧ Kin w (fun _ => False) w' ∧ C.Gl w' := by
    intro hk
    obtain ⟨xs, us, h1, h2, h3, h4⟩ := resK_ok hr' hk
    refine ⟨hr'.df, ?_⟩
    have hO' : m'.O = O := hr'.oo
    have hfin : ∀ (ys : List AV), wkT s'.hp [] xs ys True → xs.length = ys.length ∧ ∀ (j : Nat) (y : AV) (u : Value), ys[j]? = some y → us[j]? = some u → RV w' nov (mO O) y u := by
      intro ys hw
      obtain ⟨g1, g2, _⟩ := wkT_ok (N := C.N) hw
      refine ⟨g1, fun j y u hy hu => ?_⟩
      have hlt : j < xs.length := by rw [g1]; exact (List.getElem?_eq_some_iff.1 hy).1
      have := g2 j _ y (List.getElem?_eq_getElem hlt) hy w' m' u hr'.mem (h4 j _ u (List.getElem?_eq_getElem hlt) hu)
      rw [shp_nil, mwk_nil, hO'] at this
      exact this
    have hrun : (results fn a'.tmps).run C.P w' = .ok (if h : us.toArray.size = 1 then us.toArray[0] else .tuple us.toArray) w' := by
      unfold results
      rw [Array.mapM_eq_mapM_toList, map_eq_pure_bind]
      simp only [Sem.run_bind]
      erw [h2]
      simp
    refine ⟨_, hrun, _, rfl, ?_, hr'.kin, hr'.gl⟩
    rcases oneK_ok h1 with ⟨x, rfl, h1⟩ | ⟨rs, rfl, hne, h1⟩
    · obtain ⟨g1, g2⟩ := hfin [r] (h1 trivial)
      have hus : us.length = 1 := by simpa using h3.symm
      obtain ⟨u, rfl⟩ := List.length_eq_one_iff.1 hus
      simpa using g2 0 r u rfl rfl
    · obtain ⟨g1, g2⟩ := hfin rs (h1 trivial)
      have hus : us.length ≠ 1 := fun e => by
        obtain ⟨x, rfl⟩ := List.length_eq_one_iff.1 (show xs.length = 1 by omega)
        exact hne x rfl
      rw [dif_neg (by simpa using hus)]
      refine .tup (by simp; omega) (fun j x u hx hu => g2 j x u hx (by simpa using hu))
  cases e with
  | normal => exact fin hq
  | ret => exact fin hq
  | _ => exact hq.elim

/-- a value without handles of the call's own, as far as its head shows -/
def fr0 : AV → Prop
  | .c _ => True
  | .sl _ _ => True
  | x => Fr x
def frs0 : List AV → Prop
  | [] => True
  | x :: r => fr0 x ∧ frs0 r
def fr1 : AV → Prop
  | .agg cs => frs0 cs
  | .tup cs => frs0 cs
  | x => fr0 x
def frs : List AV → Prop
  | [] => True
  | x :: r => fr1 x ∧ frs r
theorem rv_fr0 {w : World} {vs vs' : Shp} {m m' : MM} {x : AV} {v : Value} (hx : fr0 x) (ho : ∀ b, Owned vs' m' b → Owned vs m b) (h : RV w vs m x v) : RV w vs' m' x v := by
  unfold fr0 at hx
  split at hx
  · exact rv_fr (.c _) ho h
  · have := h
    obtain ⟨_, _, _, _, _, _, _, _, _, _, _, _, hfr⟩ := rv_sl this
    exact rv_fr (.sl hfr) ho h
  · exact rv_fr hx ho h
theorem frs0_at : ∀ {l : List AV} {j : Nat} {x : AV}, frs0 l → l[j]? = some x → fr0 x
  | [], _, _, _, h => by simp at h
  | y :: r, 0, x, h, hx => by simp at hx; subst hx; exact h.1
  | y :: r, j + 1, x, h, hx => frs0_at (l := r) (j := j) h.2 (by simpa using hx)
theorem frs_at : ∀ {l : List AV} {j : Nat} {x : AV}, frs l → l[j]? = some x → fr1 x
  | [], _, _, _, h => by simp at h
  | y :: r, 0, x, h, hx => by simp at hx; subst hx; exact h.1
  | y :: r, j + 1, x, h, hx => frs_at (l := r) (j := j) h.2 (by simpa using hx)
theorem rv_fr1 {w : World} {vs vs' : Shp} {m m' : MM} {x : AV} {v : Value} (hx : fr1 x) (ho : ∀ b, Owned vs' m' b → Owned vs m b) (h : RV w vs m x v) : RV w vs' m' x v := by
  unfold fr1 at hx
  split at hx
  · obtain ⟨us, rfl, h1, h2⟩ := rv_agg h
    exact .agg h1 (fun j y u hy hu => rv_fr0 (frs0_at hx hy) ho (h2 j y u hy hu))
  · obtain ⟨us, rfl, h1, h2⟩ := rv_tup h
    exact .tup h1 (fun j y u hy hu => rv_fr0 (frs0_at hx hy) ho (h2 j y u hy hu))
  · exact rv_fr0 hx ho h

/-- a call of a function, by its contract -/
theorem lf_call {o : Oper} {τ : Nat → AV} {η : Nat → Ent} {f : FuncId} {os : Array Operand} {ats : Array TypeId} {r : AV} {args : List AV} (ho : o.op = .call ⟨.value (.func f), os, ats⟩) (hd : InB n o.dst) (hargs : os.toList.map (evA τ) = args) (hc : ACall C f args r) (hfr : frs args) (hr : fr1 r) : LF C n o τ η ⟨r, [], []⟩ := by
  subst hargs
  intro τ' η' hτ _ w0 X m a w h
  obtain ⟨hen, hcall⟩ := hc
  have hmap : os.toList.map (evA τ') = os.toList.map (evA τ) := List.map_congr_left (fun y hy => hτ y (by simp [ho, Op.operands, Call.operands]; exact .inr (by simpa using hy)))
  have hrun : (execOp a.eval o).run C.P w = .ok (.enter f (os.map a.eval)) w := by
    simp [execOp, ho, resolve, Act.eval, Deferred.ofValue, invoke, hen]
  have hO : ∀ b, Owned (shp η') m b → b < w.heap.size ∧ C.N ≤ b := by
    rintro b (h1 | ⟨i, h1, h2⟩)
    · exact h.mem.olt b h1
    · exact ⟨h.mem.lt (blk_live.1 h1) h2, h.mem.low i b (blk_live.1 h1) h2⟩
  have := hcall w (Owned (shp η') m) (os.map a.eval) h.gl h.mem.big hO (by simp) (fun j x v hx hv => by
    refine rv_fr1 (frs_at hfr hx) (fun b hb => owned_nov.1 hb) ?_ (vs := shp η') (m := m)
    rw [← hmap, List.getElem?_map] at hx
    rw [Array.getElem?_map] at hv
    cases hj : os[j]? with
    | none => rw [hj] at hv; cases hv
    | some q =>
      have hj' : os.toList[j]? = some q := by simpa using hj
      rw [hj'] at hx
      rw [hj] at hv
      simp at hx hv
      rw [← hx, ← hv]
      exact h.ev q)
  unfold Oper.wp
  rw [hrun]
  refine Calls.mono this ?_
  rintro e w' ⟨v, rfl, h1, h2, h3⟩
  have hm : Mono w (shp η') m w' (shp η') m := by
    refine ⟨h2.size, fun b hb _ => h2.block b hb (by simp), fun _ _ h => h, fun _ => Nat.le_refl _, fun i _ => ⟨rfl, fun hl => ⟨rfl, fun b hb => ?_⟩⟩⟩
    unfold World.shape?
    rw [h2.block b (h.mem.lt (blk_live.1 hl) hb) (by simp)]
  have hmem : Mem C.N w' η' m := ⟨fun i B hB => (h.mem.ok i B hB).mono hm (fun b hb => h2.block b (h.mem.lt (by rw [hB]; simp) hb) (by simp)), h.mem.inj, h.mem.low, h.mem.sep, fun b hb => ⟨Nat.lt_of_lt_of_le (h.mem.olt b hb).1 h2.size, (h.mem.olt b hb).2⟩, Nat.le_trans h.mem.big h2.size⟩
  have hkin : Kin w0 X.X w' := ⟨h2.os.trans h.kin.os, h2.tape.trans h.kin.tape, h2.output.trans h.kin.output, Nat.le_trans h.kin.size h2.size, fun b hb hx => by rw [h2.block b (Nat.lt_of_lt_of_le hb h.kin.size) (by simp), h.kin.block b hb hx]⟩
  exact ⟨m, (h.move hm hmem hkin rfl h.own).put hd (rv_fr1 hr (fun b hb => owned_nov.2 hb) h1)⟩
end
attribute [irreducible] AWP
end Go.Proofs.YticdfbhbbapbdaaDoor.Am
